/- Functions of the program: more. No condition. -/
import Derived.Test.YtkdkojnlimadnaaDoorLibD
import GoSem.Op.String
import Derived.Test.YtkdkojnlimadnaaDoorLibP
namespace Go.Proofs.YtkdkojnlimadnaaDoor
open Go Go.Vm Go.Lib
set_option linter.unusedVariables false
theorem less_snoc (c d : UInt8) : ∀ (x y : List UInt8), x.length = y.length → Op.bytesLess (x ++ [c]) (y ++ [d]) = (Op.bytesLess x y || (decide (x = y) && decide (c < d)))
  | [], [], _ => by simp [Op.bytesLess]
  | [], _ :: _, h => by simp at h
  | _ :: _, [], h => by simp at h
  | a :: x, b :: y, h => by
    simp only [List.cons_append, Op.bytesLess]
    rw [less_snoc c d x y (by simpa using h)]
    by_cases h1 : a < b
    · simp [h1]
    · by_cases h2 : a = b
      · subst h2; simp [h1]
      · have h3 : (a == b) = false := by simpa using h2
        simp [h1, h3]
        exact fun h => absurd h h2
theorem dig_toNat {n : Nat} (h : n < 10) : (UInt8.ofNat (48 + n)).toNat = 48 + n := by
  rw [UInt8.toNat_ofNat']; omega
theorem padk_inj : ∀ (k a b : Nat), a < 10 ^ k → b < 10 ^ k → padk k a = padk k b → a = b
  | 0, a, b, ha, hb, _ => by simp at ha hb; omega
  | k + 1, a, b, ha, hb, h => by
    rw [Nat.pow_succ] at ha hb
    unfold padk at h
    have h1 := List.append_inj h (by rw [padk_len, padk_len])
    have h2 := padk_inj k (a / 10) (b / 10) (by omega) (by omega) h1.1
    have h3 := congrArg UInt8.toNat (List.cons.inj h1.2).1
    rw [dig_toNat (Nat.mod_lt _ (by omega)), dig_toNat (Nat.mod_lt _ (by omega))] at h3
    omega
theorem padk_less : ∀ (k a b : Nat), a < 10 ^ k → b < 10 ^ k → Op.bytesLess (padk k a) (padk k b) = decide (a < b)
  | 0, a, b, ha, hb => by simp at ha hb; subst ha; subst hb; rfl
  | k + 1, a, b, ha, hb => by
    rw [Nat.pow_succ] at ha hb
    unfold padk
    rw [less_snoc _ _ _ _ (by rw [padk_len, padk_len]), padk_less k (a / 10) (b / 10) (by omega) (by omega)]
    have hd : decide (UInt8.ofNat (48 + a % 10) < UInt8.ofNat (48 + b % 10)) = decide (a % 10 < b % 10) := by
      have e1 : (UInt8.ofNat (48 + a % 10) < UInt8.ofNat (48 + b % 10)) ↔ a % 10 < b % 10 := by
        rw [UInt8.lt_iff_toNat_lt, dig_toNat (Nat.mod_lt _ (by omega)), dig_toNat (Nat.mod_lt _ (by omega))]; omega
      simp only [e1]
    rw [hd]
    have he : decide (padk k (a / 10) = padk k (b / 10)) = decide (a / 10 = b / 10) := by
      congr 1
      exact propext ⟨fun h => padk_inj k _ _ (by omega) (by omega) h, fun h => by rw [h]⟩
    rw [he, Bool.eq_iff_iff]
    simp only [Bool.or_eq_true, Bool.and_eq_true, decide_eq_true_eq]
    omega
theorem dec_low {n : Nat} (h : 1 ≤ n) : 10 ^ ((decDigits n).length - 1) ≤ n := by
  apply Decidable.byContradiction
  intro hlt
  have hp := dec_len_pos n
  by_cases h1 : (decDigits n).length - 1 = 0
  · rw [h1] at hlt; simp at hlt; omega
  · have := dec_len_le (n := n) (k := (decDigits n).length - 1) (by omega) (by omega)
    omega
theorem dec_up (n : Nat) : n < 10 ^ (decDigits n).length := by rw [decDigits_length]; exact lt_pow_nDigits n
theorem dec_shorter {a b : Nat} (h : (decDigits a).length < (decDigits b).length) : a < b := by
  have h1 := dec_up a
  have hp := dec_len_pos a
  by_cases hb : b = 0
  · have h0 : (decDigits 0).length = 1 := by rw [dec_small (by omega)]; rfl
    subst hb; omega
  · have h2 := dec_low (n := b) (by omega)
    have h3 : 10 ^ (decDigits a).length ≤ 10 ^ ((decDigits b).length - 1) := Nat.pow_le_pow_right (by omega) (by omega)
    omega
theorem dec_pad_self (n : Nat) : decDigits n = padk (decDigits n).length n := by
  have h := pad_eq (decDigits n).length (dec_len_pos n) (dec_up n)
  rw [Nat.sub_self] at h
  exact h
theorem dec_less {a b : Nat} (h : (decDigits a).length = (decDigits b).length) : Op.bytesLess (decDigits a) (decDigits b) = decide (a < b) := by
  have ha := dec_pad_self a
  have hb := dec_pad_self b
  rw [← h] at hb
  rw [ha, hb]
  have hl := padk_len (decDigits a).length a
  rw [padk_less _ _ _ (dec_up a) (by rw [h]; exact dec_up b)]
theorem dec_inj {a b : Nat} (h : decDigits a = decDigits b) : a = b := by
  have ha := dec_pad_self a
  have hb := dec_pad_self b
  rw [← h] at hb
  exact padk_inj _ a b (dec_up a) (by rw [h]; exact dec_up b) (ha.symm.trans hb)
end Go.Proofs.YtkdkojnlimadnaaDoor
namespace Go.Proofs.YtkdkojnlimadnaaDoor
open Go Go.Vm Go.Lib
set_option linter.unusedVariables false
theorem dv_snoc (l : List UInt8) (c : UInt8) : dv (l ++ [c]) = 10 * dv l + (c.toNat - 48) := by rw [dv_app]; simp [dv, dvf]; omega
theorem dec_dv_aux : ∀ (n : Nat) (l : List UInt8), l.length ≤ n → l.all isDig = true → (∃ c r, l = c :: r ∧ 49 ≤ c.toNat) → decDigits (dv l) = l := by
  intro n
  induction n with
  | zero => intro l hl _ ⟨c, r, e, _⟩; rw [e] at hl; simp at hl
  | succ n ih =>
    intro l hl ha ⟨c, r, e, hc⟩
    have hne : l ≠ [] := by rw [e]; simp
    obtain ⟨m, d, hm⟩ : ∃ m d, l = m ++ [d] := ⟨l.dropLast, l.getLast hne, (List.dropLast_concat_getLast hne).symm⟩
    have had : isDig d = true := by rw [hm, List.all_append] at ha; simp at ha; exact ha.2
    have ham : m.all isDig = true := by rw [hm, List.all_append] at ha; simp only [Bool.and_eq_true] at ha; exact ha.1
    unfold isDig at had
    simp only [Bool.and_eq_true, decide_eq_true_eq] at had
    have hd : UInt8.ofNat (48 + (d.toNat - 48)) = d := by
      rw [show 48 + (d.toNat - 48) = d.toNat by omega]; exact UInt8.ofNat_toNat
    cases m with
    | nil =>
      rw [hm]
      have : dv ([] ++ [d]) = d.toNat - 48 := by rw [dv_snoc]; simp [dv, dvf]
      rw [this, dec_small (by omega), hd]; rfl
    | cons x m =>
      have hx : x = c := by rw [e] at hm; simpa using (List.cons.inj hm).1.symm
      subst hx
      have hp : 0 < dv (x :: m) := dv_pos hc
      rw [hm, dv_snoc, dec_big (by omega), show (10 * dv (x :: m) + (d.toNat - 48)) / 10 = dv (x :: m) by omega, show (10 * dv (x :: m) + (d.toNat - 48)) % 10 = d.toNat - 48 by omega, hd]
      rw [ih (x :: m) (by rw [hm, List.length_append] at hl; simp at hl ⊢; omega) ham ⟨x, m, rfl, hc⟩]
theorem dec_dv {l : List UInt8} (ha : l.all isDig = true) (h : ∃ c r, l = c :: r ∧ 49 ≤ c.toNat) : decDigits (dv l) = l := dec_dv_aux _ l (Nat.le_refl _) ha h
theorem num_of {l : List UInt8} (ha : l.all isDig = true) (h : ∃ c r, l = c :: r ∧ 49 ≤ c.toNat) : isNum l = true ∧ l ≠ [48] ∧ hasPrefix l [40, 45, 32] = false ∧ isNum (48 :: l) = false := by
  obtain ⟨c, r, rfl, hc⟩ := h
  have h48 : c ≠ 48 := by intro e; rw [e] at hc; exact absurd hc (by decide)
  have h40 : c ≠ 40 := by intro e; rw [e] at hc; exact absurd hc (by decide)
  refine ⟨?_, ?_, ?_, ?_⟩
  · unfold isNum; rw [ha]; simp [h48]
  · intro e; exact h48 (List.cons.inj e).1
  · unfold hasPrefix
    simp [List.isPrefixOf, Ne.symm h40]
  · unfold isNum; simp
/-- A text within the sign's parentheses. -/
def inSign (l : List UInt8) : List UInt8 := [40, 45, 32] ++ l ++ [41]
theorem parse_sign (l : List UInt8) : parseZ (inSign l) = parseR true l := by
  unfold parseZ inSign
  have h1 : hasPrefix ([40, 45, 32] ++ l ++ [41]) [40, 45, 32] = true := by simp [hasPrefix, List.isPrefixOf]
  have h2 : ([40, 45, 32] ++ l ++ [41] : List UInt8).drop 3 = l ++ [41] := rfl
  have h3 : hasSuffix (l ++ [41]) [41] = true := by unfold hasSuffix; rw [List.isSuffixOf_iff_suffix]; exact ⟨l, rfl⟩
  rw [if_pos h1, h2, if_pos h3]
  congr 1
  rw [List.length_append]
  simp
theorem parse_plain {l : List UInt8} (ha : l.all isDig = true) (h : ∃ c r, l = c :: r ∧ 49 ≤ c.toNat) : parseZ l = parseR false l := by
  unfold parseZ
  rw [(num_of ha h).2.2.1]; rfl
theorem parse_num {l : List UInt8} (ha : l.all isDig = true) (h : ∃ c r, l = c :: r ∧ 49 ≤ c.toNat) (b : Bool) : parseR b l = if 360 < l.length then (⟨false, []⟩, 11) else (⟨b, lims (dv l)⟩, 0) := by
  obtain ⟨h1, h2, _, _⟩ := num_of ha h
  unfold parseR
  rw [if_neg (by rw [h1]; simp [h2])]
end Go.Proofs.YtkdkojnlimadnaaDoor
namespace Go.Vm
set_option linter.unusedVariables false
noncomputable def vtostr (a : AV) (s : St) : R :=
  a.onSl .no (.ok (.str []) s) (fun b o l _ _ => (s.obj b).onCells .no fun cs => br (Nat.ble (Nat.add o l) (ln cs)) (cellBytes (tk l (dr o cs)) fun r => .ok (.str r) s) .no) fun cs l _ _ => br (Nat.beq l (ln cs)) (cellBytes cs fun r => .ok (.str r) s) .no
theorem p_tostr (call : CallT) (f : Fr AV) (s : St) (x : CO) : exop (.tostr x) call f s = vtostr (ev1 f x) s := nd rfl
/-- A text of one letter. -/
theorem vtostr_one {s : St} {L : List AO} (hr : Room s) (hl : L.length ≤ 5000) {i : Nat} {n : Int} (hi : L[i]? = some (.cells [.int .u8 n])) : vtostr (.sl (nm s i) 0 1 1 0) (Sx s L) = .ok (.str [UInt8.ofNat n.toNat]) (Sx s L) := by
  have h := Sx_obj? hr hl hi
  unfold vtostr
  simp only [AV.onSl]
  rw [h]
  rfl
theorem vlen_nils0 (s : St) : vlen .nils s = .ok (.int .i64 0) s := nd rfl
attribute [go_sem] p_tostr vlen_nils0
end Go.Vm
namespace Go.Proofs.YtkdkojnlimadnaaDoor
open Go Go.Vm Go.Lib
set_option linter.unusedVariables false
set_option linter.unusedSimpArgs false
theorem zText_num {l : List UInt8} (ha : l.all isDig = true) (h : ∃ c r, l = c :: r ∧ 49 ≤ c.toNat) (b : Bool) : zText ⟨b, lims (dv l)⟩ = if b = true then inSign l else l := by
  have hp : 0 < dv l := by obtain ⟨c, r, rfl, hc⟩ := h; exact dv_pos hc
  have hz : zIs ⟨b, lims (dv l)⟩ = true := by
    unfold zIs
    simp only [lims_is, Bool.true_and, Bool.or_eq_true, Bool.not_eq_true', decide_eq_true_eq]
    right; exact lims_ne (by omega)
  unfold zText
  rw [zh_self hz]
  simp only [val_lims, dec_dv ha h]
  rfl
theorem lims_len_num {l : List UInt8} (ha : l.all isDig = true) (k : Nat) (hl : l.length ≤ 9 * k) : (lims (dv l)).length ≤ k := by
  refine lims_len ?_
  have h1 := dv_lt ha
  have h2 : 10 ^ l.length ≤ 10 ^ (9 * k) := Nat.pow_le_pow_right (by omega) hl
  rw [Nat.pow_mul, show (10 : Nat) ^ 9 = 1000000000 from rfl] at h2
  omega
theorem long_ok (s : St) (n c : Nat) (neg : Bool) (hr : Room s) (hn : s.n.val ≤ 10000) (h1 : n ≤ 255) (h2 : c ≤ 255) : CA F.law3_DigitsLong [.int .u8 (n : Int), .int .u8 (c : Int), .bool neg] s = .ok (.bool true) s := by
  have hk := known_ok (Sx s []) hr (by show s.n.val ≤ _; omega)
  have e1 : ∀ σ, vbin .rem (.int .u8 (n : Int)) (.int .u8 3) σ = .ok (.int .u8 ((n % 3 : Nat) : Int)) σ := fun σ => (vbin_rem σ .u8 (n : Int) 3 (by decide)).trans rfl
  have e2 : ∀ σ, vbin .rem (.int .u8 (c : Int)) (.int .u8 9) σ = .ok (.int .u8 ((c % 9 : Nat) : Int)) σ := fun σ => (vbin_rem σ .u8 (c : Int) 9 (by decide)).trans rfl
  obtain ⟨K, hK⟩ : ∃ K, K = 359 + n % 3 := ⟨_, rfl⟩
  have e0 : IntKind.wrap .i64 ((n % 3 : Nat) : Int) = ((n % 3 : Nat) : Int) := wrap_i64 (by omega) (by omega)
  have e3 : IntKind.wrap .i64 (359 + ((n % 3 : Nat) : Int)) = (K : Int) := by rw [wrap_i64 (by omega) (by omega)]; omega
  have e4 : IntKind.wrap .u8 (49 + ((c % 9 : Nat) : Int)) = ((49 + c % 9 : Nat) : Int) := by rw [wrap_u8 (by omega) (by omega)]; omega
  have hs0 := vtostr_one (s := s) (L := [.cells [.int .u8 ((49 + c % 9 : Nat) : Int)]]) (n := ((49 + c % 9 : Nat) : Int)) hr (by simp) (i := 0) rfl
  rw [Int.toNat_natCast] at hs0
  have hx1 := ext_Sx (s := s) (l := [.cells [.int .u8 ((49 + c % 9 : Nat) : Int)]]) hr (by simp)
  have hn1 := Sx_n (s := s) (l := [.cells [.int .u8 ((49 + c % 9 : Nat) : Int)]]) hr (by simp)
  simp only [List.length_cons, List.length_nil] at hn1
  have hr1 : Room (Sx s [.cells [.int .u8 ((49 + c % 9 : Nat) : Int)]]) := hr.Sx (by simp; omega) (by simp)
  have hc0 : (UInt8.ofNat (49 + c % 9)).toNat = 49 + c % 9 := by rw [UInt8.toNat_ofNat']; omega
  generalize UInt8.ofNat (49 + c % 9) = c0 at hs0 hc0
  have hd0 : isDig c0 = true := by unfold isDig; simp; omega
  refine fn_of code_law3_DigitsLong (by simp) ?_
  simp only [go_sem, ↓reduceIte, Nat.reduceMod, Nat.reduceEqDiff, Nat.reduceAdd, Nat.reduceMul, Nat.reduceSub, Nat.reduceLeDiff, Nat.reduceLT, Int.reduceEq, Int.reduceLT, Int.reduceLE, Int.reduceAdd, Int.reduceSub, Int.reduceNeg, reduceCtorEq, Nat.reduceShiftRight, Nat.reduceAnd, Nat.reduceBNe, Bool.not_true, Bool.not_false, hk, e0, e1, e2, e3, e4, hr, hs0]
  generalize Sx s [.cells [.int .u8 ((49 + c % 9 : Nat) : Int)]] = s1 at *
  refine W_inv (fun k f τ => ∃ (i : Nat) (T : List UInt8) (σ : St), Sx σ [] = τ ∧ Room σ ∧ Ext s σ ∧ σ.n.val ≤ s.n.val + 1 + i ∧ k = K - i ∧ 1 ≤ i ∧ i ≤ K ∧ T.length = i ∧ T.all isDig = true ∧ (∃ c0 r, T = c0 :: r ∧ 49 ≤ c0.toNat) ∧ (vv 2).get f = .bool neg ∧ (vv 7).get f = .int .i64 (K : Int) ∧ (vv 8).get f = .str T ∧ (vv 9).get f = .int .i64 (i : Int)) ?_ ⟨1, [c0], s1, Sx_nil _, hr1, hx1, by omega, rfl, by omega, by omega, rfl, by simp [hd0], ⟨c0, [], rfl, by omega⟩, ?_, ?_, ?_, ?_⟩
  · rintro k f τ ⟨i, T, σ, rfl, hr2, hx, hn2, rfl, hi1, hi, hT, ha, hhd, g2, g7, g8, g9⟩
    by_cases c1 : i < K
    · have c1' : (i : Int) < (K : Int) := by omega
      have e5 : ∀ σ, vbin .rem (.int .i64 (i : Int)) (.int .i64 10) σ = .ok (.int .i64 ((i % 10 : Nat) : Int)) σ := fun σ => (vbin_rem σ .i64 (i : Int) 10 (by decide)).trans rfl
      have e6 : IntKind.wrap .u8 ((i % 10 : Nat) : Int) = ((i % 10 : Nat) : Int) := wrap_u8 (by omega) (by omega)
      have e7 : IntKind.wrap .u8 (48 + ((i % 10 : Nat) : Int)) = ((48 + i % 10 : Nat) : Int) := by rw [wrap_u8 (by omega) (by omega)]; omega
      have hs1 := vtostr_one (s := σ) (L := [.cells [.int .u8 ((48 + i % 10 : Nat) : Int)]]) (n := ((48 + i % 10 : Nat) : Int)) hr2 (by simp) (i := 0) rfl
      rw [Int.toNat_natCast] at hs1
      have hdd : isDig (UInt8.ofNat (48 + i % 10)) = true := by
        have : (UInt8.ofNat (48 + i % 10)).toNat = 48 + i % 10 := dig_toNat (Nat.mod_lt _ (by omega))
        unfold isDig; simp only [this, Bool.and_eq_true, decide_eq_true_eq]; omega
      generalize UInt8.ofNat (48 + i % 10) = dd at *
      have hsa : ∀ σ, vbin .add (.str T) (.str [dd]) σ = .ok (.str (T ++ [dd])) σ := fun σ => vbin_sadd σ _ _ (by simp; omega)
      simp only [go_sem, ↓reduceIte, Nat.reduceMod, Nat.reduceEqDiff, Nat.reduceAdd, Nat.reduceMul, Nat.reduceSub, Nat.reduceLeDiff, Nat.reduceLT, Int.reduceEq, Int.reduceLT, Int.reduceLE, Int.reduceAdd, Int.reduceSub, Int.reduceNeg, reduceCtorEq, Nat.reduceShiftRight, Nat.reduceAnd, Nat.reduceBNe, g2, g7, g8, g9, c1', e5, e6, e7, hr2, hs1, hsa]
      refine ⟨K - (i + 1), by omega, i + 1, T ++ [dd], _, Sx_nil _, hr2.Sx (by simp; omega) (by simp), hx.trans (ext_Sx hr2 (by simp)), ?_, rfl, by omega, by omega, by simp [hT], ?_, ?_, ?_⟩
      · rw [Sx_n hr2 (by simp)]; simp; omega
      · rw [List.all_append, ha]; simp [hdd]
      · obtain ⟨c0, r, e, h⟩ := hhd; exact ⟨c0, r ++ [dd], by rw [e]; rfl, h⟩
      · rw [wrap_i64 (by omega) (by omega)]; exact ⟨rfl, rfl⟩
    · have hiK : i = K := by omega
      have c1' : ¬ (i : Int) < (K : Int) := by omega
      have hav : avN [] = .nils := if_pos rfl
      cases neg
      · have p := parse_ok (Sx σ []) (T) hr2 (by show σ.n.val ≤ _; omega) (by omega)
        rw [parse_plain ha hhd, parse_num ha hhd] at p
        by_cases c3 : 360 < K
        · rw [if_pos (by omega), hav] at p
          have c3' : (360 : Int) < (K : Int) := by omega
          simp only [go_sem, ↓reduceIte, Nat.reduceMod, Nat.reduceEqDiff, Nat.reduceAdd, Nat.reduceMul, Nat.reduceSub, Nat.reduceLeDiff, Nat.reduceLT, Int.reduceEq, Int.reduceLT, Int.reduceLE, Int.reduceAdd, Int.reduceSub, Int.reduceNeg, reduceCtorEq, Nat.reduceShiftRight, Nat.reduceAnd, Nat.reduceBNe, Bool.not_true, Bool.not_false, g2, g7, g8, g9, c1', p, hr2, c3']
          exact settled_bool (hx.trans (ext_Sx hr2 (by simp))) rfl
        · rw [if_neg (by omega)] at p
          have c3' : ¬ (360 : Int) < (K : Int) := by omega
          have hll := lims_len_num ha 40 (by omega)
          have pr := fun L => print_call (Sx σ L) (.bool false) (avN (lims (dv T))) ⟨false, lims (dv T)⟩ (by show (lims (dv T)).length ≤ 100; omega) ⟨rfl, avN_nats _ _ (by omega)⟩
          rw [zText_num ha hhd] at pr
          simp only [if_true, Bool.false_eq_true, if_false] at pr
          have hone : (avN (lims (dv T))).one = true := avN_one _
          obtain ⟨q1, q2, q3, q4⟩ := num_of ha hhd
          have m1 := fun L (hL : L.length ≤ 100) => numeral_ok (Sx σ L) T (hr2.Sx (by omega) (by omega)) (by omega)
          have m2 := fun L (hL : L.length ≤ 100) => numeral_ok (Sx σ L) (48 :: T) (hr2.Sx (by omega) (by omega)) (by simp; omega)
          rw [q1] at m1
          rw [q4] at m2
          have hsa0 : ∀ σ, vbin .add (.str [48]) (.str T) σ = .ok (.str (48 :: T)) σ := fun σ => vbin_sadd σ _ _ (by simp; omega)
          simp only [go_sem, ↓reduceIte, Nat.reduceMod, Nat.reduceEqDiff, Nat.reduceAdd, Nat.reduceMul, Nat.reduceSub, Nat.reduceLeDiff, Nat.reduceLT, Int.reduceEq, Int.reduceLT, Int.reduceLE, Int.reduceAdd, Int.reduceSub, Int.reduceNeg, reduceCtorEq, Nat.reduceShiftRight, Nat.reduceAnd, Nat.reduceBNe, Bool.not_true, Bool.not_false, decide_true, g2, g7, g8, g9, c1', p, hr2, c3', hone, pr, m1, m2, hsa0]
          exact settled_bool (hx.trans (ext_Sx hr2 (by simp))) rfl
      · have hsa1 : ∀ σ, vbin .add (.str [40, 45, 32]) (.str T) σ =   .ok (.str (40 :: 45 :: 32 :: T)) σ := fun σ => vbin_sadd σ _ _ (by simp; omega)
        have hsa2 : ∀ σ, vbin .add (.str (40 :: 45 :: 32 :: T)) (.str [41]) σ = .ok (.str (inSign T)) σ := fun σ => vbin_sadd σ _ _ (by simp; omega)
        have p := parse_ok (Sx σ []) (inSign T) hr2 (by show σ.n.val ≤ _; omega) (by simp [inSign]; omega)
        rw [parse_sign T, parse_num ha hhd] at p
        by_cases c3 : 360 < K
        · rw [if_pos (by omega), hav] at p
          have c3' : (360 : Int) < (K : Int) := by omega
          simp only [go_sem, ↓reduceIte, Nat.reduceMod, Nat.reduceEqDiff, Nat.reduceAdd, Nat.reduceMul, Nat.reduceSub, Nat.reduceLeDiff, Nat.reduceLT, Int.reduceEq, Int.reduceLT, Int.reduceLE, Int.reduceAdd, Int.reduceSub, Int.reduceNeg, reduceCtorEq, Nat.reduceShiftRight, Nat.reduceAnd, Nat.reduceBNe, Bool.not_true, Bool.not_false, g2, g7, g8, g9, c1', hsa1, hsa2, p, hr2, c3']
          exact settled_bool (hx.trans (ext_Sx hr2 (by simp))) rfl
        · rw [if_neg (by omega)] at p
          have c3' : ¬ (360 : Int) < (K : Int) := by omega
          have hll := lims_len_num ha 40 (by omega)
          have pr := fun L => print_call (Sx σ L) (.bool true) (avN (lims (dv T))) ⟨true, lims (dv T)⟩ (by show (lims (dv T)).length ≤ 100; omega) ⟨rfl, avN_nats _ _ (by omega)⟩
          rw [zText_num ha hhd] at pr
          simp only [if_true, Bool.false_eq_true, if_false] at pr
          have hone : (avN (lims (dv T))).one = true := avN_one _
          obtain ⟨q1, q2, q3, q4⟩ := num_of ha hhd
          have m1 := fun L (hL : L.length ≤ 100) => numeral_ok (Sx σ L) T (hr2.Sx (by omega) (by omega)) (by omega)
          have m2 := fun L (hL : L.length ≤ 100) => numeral_ok (Sx σ L) (48 :: T) (hr2.Sx (by omega) (by omega)) (by simp; omega)
          rw [q1] at m1
          rw [q4] at m2
          have hsa0 : ∀ σ, vbin .add (.str [48]) (.str T) σ = .ok (.str (48 :: T)) σ := fun σ => vbin_sadd σ _ _ (by simp; omega)
          simp only [go_sem, ↓reduceIte, Nat.reduceMod, Nat.reduceEqDiff, Nat.reduceAdd, Nat.reduceMul, Nat.reduceSub, Nat.reduceLeDiff, Nat.reduceLT, Int.reduceEq, Int.reduceLT, Int.reduceLE, Int.reduceAdd, Int.reduceSub, Int.reduceNeg, reduceCtorEq, Nat.reduceShiftRight, Nat.reduceAnd, Nat.reduceBNe, Bool.not_true, Bool.not_false, decide_true, g2, g7, g8, g9, c1', hsa1, hsa2, p, hr2, c3', hone, pr, m1, m2, hsa0]
          exact settled_bool (hx.trans (ext_Sx hr2 (by simp))) rfl
  · simp only [go_sem, ↓reduceIte, Nat.reduceMod, Nat.reduceEqDiff, Nat.reduceAdd, Nat.reduceMul, Nat.reduceSub, Nat.reduceLeDiff, Nat.reduceLT, Int.reduceEq, Int.reduceLT, Int.reduceLE, Int.reduceAdd, Int.reduceSub, Int.reduceNeg, reduceCtorEq, Nat.reduceShiftRight, Nat.reduceAnd, Nat.reduceBNe]
  · simp only [go_sem, ↓reduceIte, Nat.reduceMod, Nat.reduceEqDiff, Nat.reduceAdd, Nat.reduceMul, Nat.reduceSub, Nat.reduceLeDiff, Nat.reduceLT, Int.reduceEq, Int.reduceLT, Int.reduceLE, Int.reduceAdd, Int.reduceSub, Int.reduceNeg, reduceCtorEq, Nat.reduceShiftRight, Nat.reduceAnd, Nat.reduceBNe]
  · simp only [go_sem, ↓reduceIte, Nat.reduceMod, Nat.reduceEqDiff, Nat.reduceAdd, Nat.reduceMul, Nat.reduceSub, Nat.reduceLeDiff, Nat.reduceLT, Int.reduceEq, Int.reduceLT, Int.reduceLE, Int.reduceAdd, Int.reduceSub, Int.reduceNeg, reduceCtorEq, Nat.reduceShiftRight, Nat.reduceAnd, Nat.reduceBNe]
  · simp only [go_sem, ↓reduceIte, Nat.reduceMod, Nat.reduceEqDiff, Nat.reduceAdd, Nat.reduceMul, Nat.reduceSub, Nat.reduceLeDiff, Nat.reduceLT, Int.reduceEq, Int.reduceLT, Int.reduceLE, Int.reduceAdd, Int.reduceSub, Int.reduceNeg, reduceCtorEq, Nat.reduceShiftRight, Nat.reduceAnd, Nat.reduceBNe]
    rfl
theorem u8_wf {a : Int} (h : (Lit.int .u8 a).wf = true) : ∃ n : Nat, a = n ∧ n ≤ 255 := by
  have h2 : IntKind.u8.min = 0 := rfl
  have h3 : IntKind.u8.max = 255 := rfl
  simp [Lit.wf] at h
  exact ⟨a.toNat, by omega, by omega⟩
theorem long_row {a b : Int} (neg : Bool) (ha : (Lit.int .u8 a).wf = true) (hb : (Lit.int .u8 b).wf = true) : CA F.law3_DigitsLong [.int .u8 a, .int .u8 b, .bool neg] .empty = .ok (.bool true) .empty := by
  obtain ⟨n, rfl, hn⟩ := u8_wf ha
  obtain ⟨c, rfl, hc⟩ := u8_wf hb
  exact long_ok .empty n c neg room_empty (by show (0 : Nat) ≤ _; omega) hn hc
end Go.Proofs.YtkdkojnlimadnaaDoor
namespace Go.Vm
set_option linter.unusedVariables false
theorem vslhi_eq1 {j : IntKind} {b : Id} {len cap h : Nat} (hc : 1 ≤ cap) (hh : h ≤ cap) (s : St) : vslhi 1 (.sl b 0 len cap 1) (.int j (h : Int)) s = .ok (.sl b 0 h cap 1) s := by
  show (AV.int j (h : Int)).idx (cap + 1) (fun h => br (br (Nat.beq 1 0) true (br false true (Nat.ble 1 cap))) (br (br (Nat.beq 1 0) true (br false true (Nat.beq 1 1))) (R.ok (.sl b (br (Nat.beq cap 0) 0 (Nat.add 0 (Nat.mul 0 1))) (Nat.sub h 0) (Nat.sub cap 0) (br false 0 1)) s) .no) (.ok (.ts [] 0 0 false) s)) = _
  rw [idx_eq (by omega) (by omega)]
  simp only [Int.toNat_natCast]
  have e1 : Nat.ble 1 cap = true := Nat.ble_eq_true_of_le hc
  have e : br (Nat.beq cap 0) 0 (Nat.add 0 (Nat.mul 0 1)) = 0 := by cases Nat.beq cap 0 <;> rfl
  rw [e, e1]; rfl
end Go.Vm
namespace Go.Proofs.YtkdkojnlimadnaaDoor
open Go Go.Vm
set_option linter.unusedVariables false
set_option linter.unusedSimpArgs false
theorem take_snoc {l : List Nat} {k : Nat} (h : k < l.length) : l.take (k + 1) = l.take k ++ [l[k]] := (List.take_append_getElem h).symm
theorem cellsN_at {l : List Nat} {i : Nat} (h : i < l.length) : (cellsN l)[i]? = some (.int .u32 (l[i] : Int)) := by unfold cellsN; rw [List.getElem?_map, List.getElem?_eq_getElem h]; rfl
theorem trim0_pre (l : List Nat) : trim0 l <+: l := by
  unfold trim0
  have h := List.dropWhile_suffix (fun a : Nat => decide (a = 0)) (l := l.reverse)
  rw [← List.reverse_prefix] at h
  simpa using h
theorem trim_ok [Tel] (s : St) (b : Vm.Id) (l : List Nat) (hb : b.val < s.n.val) (h0 : 1 ≤ l.length) (hl : l.length ≤ 100000) (ho : s.obj b = .cells (cellsN l)) : CA F.ref1_trim [.sl b 0 l.length l.length 1] s = .ok (.sl b 0 (trim0 l).length l.length 1) s := by
  have w0 : (Sx s []).obj b = .cells (cellsN l) := ho
  refine fn_of code_ref1_trim (by simp) ?_
  simp only [go_sem, ↓reduceIte, Nat.reduceMod, Nat.reduceEqDiff, Nat.reduceAdd, Nat.reduceMul, Nat.reduceSub, Nat.reduceLeDiff, Nat.reduceLT, Int.reduceEq, Int.reduceLT, Int.reduceLE, Int.reduceAdd, Int.reduceSub, Int.reduceNeg, reduceCtorEq, Nat.reduceShiftRight, Nat.reduceAnd, Nat.reduceBNe]
  refine W_inv (fun k f τ => ∃ i : Nat, Sx s [] = τ ∧ k = i ∧ i ≤ l.length ∧ trim0 (l.take i) = trim0 l ∧ (vv 0).get f = .sl b 0 l.length l.length 1 ∧ (vv 3).get f = .int .i64 (i : Int)) ?_ ⟨l.length, rfl, rfl, Nat.le_refl _, by rw [List.take_length], ?_, ?_⟩
  · rintro k f τ ⟨i, rfl, rfl, hi, ht, g0, g3⟩
    by_cases c0 : k = 0
    · have c0' : ¬ (0 : Int) < (k : Int) := by omega
      have e2 : (trim0 l).length = k := by rw [← ht, c0]; rfl
      simp only [go_sem, ↓reduceIte, Nat.reduceMod, Nat.reduceEqDiff, Nat.reduceAdd, Nat.reduceMul, Nat.reduceSub, Nat.reduceLeDiff, Nat.reduceLT, Int.reduceEq, Int.reduceLT, Int.reduceLE, Int.reduceAdd, Int.reduceSub, Int.reduceNeg, reduceCtorEq, Nat.reduceShiftRight, Nat.reduceAnd, Nat.reduceBNe, g0, g3, c0', vslhi_eq1 h0 hi]
      rw [e2]
      exact settled_ov (Ext.refl s) (ov_sl hb _ _ _ _)
    · have c0' : (0 : Int) < (k : Int) := by omega
      have hlt : k - 1 < l.length := by omega
      have ew : IntKind.wrap .i64 ((k : Int) - 1) = ((k - 1 : Nat) : Int) := by rw [wrap_i64 (by omega) (by omega)]; omega
      have e1 : l.take k = l.take (k - 1) ++ [l[k - 1]] := by rw [← take_snoc hlt]; congr 1; omega
      have hw := fun σ => wrap1_at (cellsN_at hlt) σ
      by_cases c1 : l[k - 1] = 0
      · have c1' : (l[k - 1] : Int) = 0 := by omega
        simp only [go_sem, ↓reduceIte, Nat.reduceMod, Nat.reduceEqDiff, Nat.reduceAdd, Nat.reduceMul, Nat.reduceSub, Nat.reduceLeDiff, Nat.reduceLT, Int.reduceEq, Int.reduceLT, Int.reduceLE, Int.reduceAdd, Int.reduceSub, Int.reduceNeg, reduceCtorEq, Nat.reduceShiftRight, Nat.reduceAnd, Nat.reduceBNe, g0, g3, c0', ew, viaddr_sl hlt, w0, hw, c1']
        refine ⟨k - 1, by omega, k - 1, rfl, by omega, ?_, rfl⟩
        rw [← ht, e1, trim0_snoc, if_pos c1]
      · have c1' : ¬ (l[k - 1] : Int) = 0 := by omega
        have e2 : (trim0 l).length = k := by rw [← ht, e1, trim0_snoc, if_neg c1, ← e1, List.length_take]; omega
        simp only [go_sem, ↓reduceIte, Nat.reduceMod, Nat.reduceEqDiff, Nat.reduceAdd, Nat.reduceMul, Nat.reduceSub, Nat.reduceLeDiff, Nat.reduceLT, Int.reduceEq, Int.reduceLT, Int.reduceLE, Int.reduceAdd, Int.reduceSub, Int.reduceNeg, reduceCtorEq, Nat.reduceShiftRight, Nat.reduceAnd, Nat.reduceBNe, g0, g3, c0', ew, viaddr_sl hlt, w0, hw, c1', vslhi_eq1 h0 hi]
        rw [e2]
        exact settled_ov (Ext.refl s) (ov_sl hb _ _ _ _)
  · simp only [go_sem, ↓reduceIte, Nat.reduceMod, Nat.reduceEqDiff, Nat.reduceAdd, Nat.reduceMul, Nat.reduceSub, Nat.reduceLeDiff, Nat.reduceLT, Int.reduceEq, Int.reduceLT, Int.reduceLE, Int.reduceAdd, Int.reduceSub, Int.reduceNeg, reduceCtorEq, Nat.reduceShiftRight, Nat.reduceAnd, Nat.reduceBNe]
  · simp only [go_sem, ↓reduceIte, Nat.reduceMod, Nat.reduceEqDiff, Nat.reduceAdd, Nat.reduceMul, Nat.reduceSub, Nat.reduceLeDiff, Nat.reduceLT, Int.reduceEq, Int.reduceLT, Int.reduceLE, Int.reduceAdd, Int.reduceSub, Int.reduceNeg, reduceCtorEq, Nat.reduceShiftRight, Nat.reduceAnd, Nat.reduceBNe]
theorem trim0_le (l : List Nat) : (trim0 l).length ≤ l.length := (trim0_pre l).length_le
/-- A row of limbs, the first of what lies there. -/
theorem nats_first {s : St} {cs : List AV} (l : List Nat) (hl : l.length ≤ 140737488355328) (cap : Nat) (ex : Bool) (ho : ∀ c ∈ cs, Ov s.n.val c) (hc : ∀ i (h : i < l.length), cs[i]? = some (.int .u32 (l[i] : Int))) : Nats s (.ts cs l.length cap ex) l := by
  refine ⟨.ts _ _ _ _ hl ho, rfl, fun i hi => ?_⟩
  show ∃ t, cs.drop (i * 1) = _
  obtain ⟨h1, h2⟩ := List.getElem?_eq_some_iff.mp (hc i hi)
  rw [Nat.mul_one, List.drop_eq_getElem_cons h1, h2]
  exact ⟨_, rfl⟩
theorem pre_at {a b : List Nat} (h : a <+: b) {i : Nat} (hi : i < a.length) : b[i]? = some a[i] := by
  obtain ⟨t, rfl⟩ := h
  rw [List.getElem?_append_left hi, List.getElem?_eq_getElem hi]
/-- What is left of a row of limbs without its noughts. -/
theorem nats_trim {s : St} (ds : List Nat) (hl : ds.length ≤ 140737488355328) (cap : Nat) (ex : Bool) : Nats s (.ts (cellsN ds) (trim0 ds).length cap ex) (trim0 ds) := by
  have := trim0_le ds
  refine nats_first _ (by omega) cap ex (ov_nats ds) fun i hi => ?_
  unfold cellsN
  rw [List.getElem?_map, pre_at (trim0_pre ds) hi]; rfl
/-- A row of one's own, trimmed and given away. -/
theorem trim_fn [Tel] {s σ : St} {av : AV} {out : List Nat} (own : OwnN s.n.val σ av out) (hx : Ext s σ) (h0 : out ≠ []) (hl : out.length ≤ 100000) : ∃ r, CA F.ref1_trim [av] σ = .ok r σ ∧ r.one = true ∧ Settled s r σ (.ts (cellsN out) (trim0 out).length (trim0 out).length false) s := by
  rcases own with ⟨_, e⟩ | ⟨b, rfl, _, ho, hb, hbn⟩
  · exact absurd e h0
  · refine ⟨_, trim_ok σ b out hb (by cases out <;> simp_all) hl ho, rfl, settled_fz hx ?_⟩
    refine .slN b 0 (trim0 out).length out.length 1 (cellsN out) (cellsN out) hbn ho rfl (fun j c d hc hd => ?_)
    have hc' : (cellsN out)[j]? = some c := hc
    rw [hd] at hc'; cases hc'
    obtain ⟨m, _, rfl⟩ := List.mem_map.mp (List.mem_of_getElem? hd)
    exact .int _ _
theorem natural_ok [Tel] (s : St) (l : List UInt8) (hr : Room s) (hn : s.n.val ≤ 50000) (hl : l.length ≤ 5000) (h0 : l ≠ []) (ha : l.all isDig = true) : CA F.ref1_natural [.str l] s = .ok (.ts (cellsN (chunk l)) (trim0 (chunk l)).length (trim0 (chunk l)).length false) s := by
  have hcl := chunk_len _ l (Nat.le_refl _)
  have hne : chunk l ≠ [] := by rw [chunk_pos h0]; simp
  refine fn_of code_ref1_natural (by simp) ?_
  simp only [go_sem, ↓reduceIte, Nat.reduceMod, Nat.reduceEqDiff, Nat.reduceAdd, Nat.reduceMul, Nat.reduceSub, Nat.reduceLeDiff, Nat.reduceLT, Int.reduceEq, Int.reduceLT, Int.reduceLE, Int.reduceAdd, Int.reduceSub, Int.reduceNeg, reduceCtorEq, Nat.reduceShiftRight, Nat.reduceAnd, Nat.reduceBNe]
  refine W_inv (fun k f τ => ∃ (x : Int) (out : List Nat) (σ : St) (av : AV), Sx σ [] = τ ∧ Room σ ∧ Ext s σ ∧ σ.n.val ≤ s.n.val + 2 * out.length ∧ k = x.toNat ∧ -9 ≤ x ∧ x ≤ l.length ∧ out ++ chunk (l.take x.toNat) = chunk l ∧ OwnN s.n.val σ av out ∧ (vv 0).get f = .str l ∧ (vv 3).get f = av ∧ (vv 4).get f = .int .i64 x) ?_ ⟨(l.length : Int), [], s, .nils, rfl, hr, Ext.refl s, by simp, rfl, by omega, by omega, by simp, .inl ⟨rfl, rfl⟩, ?_, ?_, ?_⟩
  · rintro k f τ ⟨x, out, σ, av, rfl, hr1, hx, hn1, rfl, hx1, hx2, hch, own, g0, g3, g4⟩
    have hol : out.length ≤ (chunk l).length := by rw [← hch, List.length_append]; omega
    by_cases c1 : (0 : Int) < x
    · obtain ⟨e, rfl⟩ : ∃ e : Nat, x = e := ⟨x.toNat, by omega⟩
      simp only [Int.toNat_natCast] at hch
      have hel : e ≤ l.length := by omega
      have hlen : (l.take e).length = e := by rw [List.length_take]; omega
      have hne2 : l.take e ≠ [] := by intro h; rw [h] at hlen; simp at hlen; omega
      have hra : (l.take e).all isDig = true := all_take_d ha e
      rw [chunk_pos hne2, hlen] at hch
      have hdl := dv_chunk_lt hra
      rw [hlen] at hdl
      have etk : (l.take e).take (e - 9) = l.take (e - 9) := by rw [List.take_take]; congr 1; omega
      rw [etk] at hch
      have em : max 0 (IntKind.wrap .i64 ((e : Int) - 9)) = ((e - 9 : Nat) : Int) := by rw [wrap_i64 (by omega) (by omega)]; omega
      simp only [go_sem, ↓reduceIte, Nat.reduceMod, Nat.reduceEqDiff, Nat.reduceAdd, Nat.reduceMul, Nat.reduceSub, Nat.reduceLeDiff, Nat.reduceLT, Int.reduceEq, Int.reduceLT, Int.reduceLE, Int.reduceAdd, Int.reduceSub, Int.reduceNeg, reduceCtorEq, Nat.reduceShiftRight, Nat.reduceAnd, Nat.reduceBNe, g0, g3, g4, c1, vmm_max, em]
      refine W_inv (fun k f τ => ∃ j : Nat, Sx σ [] = τ ∧ k = e - j ∧ e - 9 ≤ j ∧ j ≤ e ∧ (vv 0).get f = .str l ∧ (vv 3).get f = av ∧ (vv 4).get f = .int .i64 (e : Int) ∧ (vv 5).get f = .int .u32 (dv ((l.take j).drop (e - 9)) : Int) ∧ (vv 6).get f = .int .i64 (j : Int)) ?_ ⟨e - 9, rfl, rfl, Nat.le_refl _, by omega, ?_, ?_, ?_, ?_, ?_⟩
      · rintro k f τ ⟨j, rfl, rfl, hj1, hj2, g0, g3, g4, g5, g6⟩
        by_cases d1 : j < e
        · have hjl : j < l.length := by omega
          have hsn : (l.take (j + 1)).drop (e - 9) = (l.take j).drop (e - 9) ++ [l[j]] := by
            rw [← List.take_append_getElem hjl, List.drop_append_of_le_length (by rw [List.length_take]; omega)]
          have hdj : isDig l[j] = true := by rw [List.all_eq_true] at ha; exact ha _ (List.getElem_mem hjl)
          unfold isDig at hdj
          simp only [Bool.and_eq_true, decide_eq_true_eq] at hdj
          have hdv := dv_snoc ((l.take j).drop (e - 9)) l[j]
          rw [← hsn] at hdv
          have hlt : dv ((l.take (j + 1)).drop (e - 9)) < 1000000000 := by
            have h1 := dv_lt (all_drop_d (all_take_d ha (j + 1)) (e - 9))
            have h2 : ((l.take (j + 1)).drop (e - 9)).length ≤ 9 := by rw [List.length_drop, List.length_take]; omega
            have h3 : 10 ^ ((l.take (j + 1)).drop (e - 9)).length ≤ 10 ^ 9 := Nat.pow_le_pow_right (by omega) h2
            omega
          generalize hd : dv ((l.take j).drop (e - 9)) = d at *
          have w1 : IntKind.wrap .u32 (10 * (d : Int)) = ((10 * d : Nat) : Int) := by rw [wrap_u32 (by omega) (by omega)]; omega
          have w2 : IntKind.wrap .u8 ((l[j].toNat : Int) - 48) = ((l[j].toNat - 48 : Nat) : Int) := by rw [wrap_u8 (by omega) (by omega)]; omega
          have w3 : IntKind.wrap .u32 ((l[j].toNat - 48 : Nat) : Int) = ((l[j].toNat - 48 : Nat) : Int) := wrap_u32 (by omega) (by omega)
          have w4 : IntKind.wrap .u32 (((10 * d : Nat) : Int) + ((l[j].toNat - 48 : Nat) : Int)) = ((10 * d + (l[j].toNat - 48) : Nat) : Int) := by rw [wrap_u32 (by omega) (by omega)]; omega
          simp only [go_sem, ↓reduceIte, Nat.reduceMod, Nat.reduceEqDiff, Nat.reduceAdd, Nat.reduceMul, Nat.reduceSub, Nat.reduceLeDiff, Nat.reduceLT, Int.reduceEq, Int.reduceLT, Int.reduceLE, Int.reduceAdd, Int.reduceSub, Int.reduceNeg, reduceCtorEq, Nat.reduceShiftRight, Nat.reduceAnd, Nat.reduceBNe, g0, g3, g4, g5, g6, Int.ofNat_lt, d1, vsidx_n hjl, w1, w2, w3, w4]
          refine ⟨e - (j + 1), by omega, j + 1, rfl, by omega, by omega, ?_⟩
          rw [hdv, wrap_i64 (by omega) (by omega)]
          exact ⟨rfl, rfl⟩
        · have hje : j = e := by omega
          subst hje
          generalize hd : dv ((l.take j).drop (j - 9)) = d at *
          obtain ⟨σ', av', hap, hr2, hn2, own2, hold⟩ := own_app hr1 hx.n own d (L := [.cells [.int .u32 (d : Int)]]) (by simp) (by simp; omega) (by omega) (i := 0) rfl
          simp only [go_sem, ↓reduceIte, Nat.reduceMod, Nat.reduceEqDiff, Nat.reduceAdd, Nat.reduceMul, Nat.reduceSub, Nat.reduceLeDiff, Nat.reduceLT, Int.reduceEq, Int.reduceLT, Int.reduceLE, Int.reduceAdd, Int.reduceSub, Int.reduceNeg, reduceCtorEq, Nat.reduceShiftRight, Nat.reduceAnd, Nat.reduceBNe, g0, g3, g4, g5, g6, Int.ofNat_lt, d1, hr1, hap]
          refine ⟨((j : Int) - 9).toNat, by omega, (j : Int) - 9, out ++ [d], σ', av', Sx_nil _, hr2, ⟨by have := hx.n; omega, fun c hc => (hold c hc).trans (hx.old c hc)⟩, ?_, rfl, by omega, by omega, ?_, own2, ?_⟩
          · rw [hn2]; simp; omega
          · rw [show ((j : Int) - 9).toNat = j - 9 by omega, List.append_assoc]; exact hch
          · rw [wrap_i64 (by omega) (by omega)]; exact ⟨rfl, rfl⟩
      · simp only [go_sem, ↓reduceIte, Nat.reduceMod, Nat.reduceEqDiff, Nat.reduceAdd, Nat.reduceMul, Nat.reduceSub, Nat.reduceLeDiff, Nat.reduceLT, Int.reduceEq, Int.reduceLT, Int.reduceLE, Int.reduceAdd, Int.reduceSub, Int.reduceNeg, reduceCtorEq, Nat.reduceShiftRight, Nat.reduceAnd, Nat.reduceBNe, g0]
      · simp only [go_sem, ↓reduceIte, Nat.reduceMod, Nat.reduceEqDiff, Nat.reduceAdd, Nat.reduceMul, Nat.reduceSub, Nat.reduceLeDiff, Nat.reduceLT, Int.reduceEq, Int.reduceLT, Int.reduceLE, Int.reduceAdd, Int.reduceSub, Int.reduceNeg, reduceCtorEq, Nat.reduceShiftRight, Nat.reduceAnd, Nat.reduceBNe, g3]
      · simp only [go_sem, ↓reduceIte, Nat.reduceMod, Nat.reduceEqDiff, Nat.reduceAdd, Nat.reduceMul, Nat.reduceSub, Nat.reduceLeDiff, Nat.reduceLT, Int.reduceEq, Int.reduceLT, Int.reduceLE, Int.reduceAdd, Int.reduceSub, Int.reduceNeg, reduceCtorEq, Nat.reduceShiftRight, Nat.reduceAnd, Nat.reduceBNe, g4]
      · simp only [go_sem, ↓reduceIte, Nat.reduceMod, Nat.reduceEqDiff, Nat.reduceAdd, Nat.reduceMul, Nat.reduceSub, Nat.reduceLeDiff, Nat.reduceLT, Int.reduceEq, Int.reduceLT, Int.reduceLE, Int.reduceAdd, Int.reduceSub, Int.reduceNeg, reduceCtorEq, Nat.reduceShiftRight, Nat.reduceAnd, Nat.reduceBNe]
        have : (l.take (e - 9)).drop (e - 9) = [] := by rw [List.drop_eq_nil_iff, List.length_take]; omega
        rw [this]; rfl
      · simp only [go_sem, ↓reduceIte, Nat.reduceMod, Nat.reduceEqDiff, Nat.reduceAdd, Nat.reduceMul, Nat.reduceSub, Nat.reduceLeDiff, Nat.reduceLT, Int.reduceEq, Int.reduceLT, Int.reduceLE, Int.reduceAdd, Int.reduceSub, Int.reduceNeg, reduceCtorEq, Nat.reduceShiftRight, Nat.reduceAnd, Nat.reduceBNe]
    · have e0 : x.toNat = 0 := by omega
      rw [e0, List.take_zero, chunk_nil, List.append_nil] at hch
      obtain ⟨r, ht, hone, hset⟩ := trim_fn own hx (by rw [hch]; exact hne) (by omega)
      rw [hch] at hset
      have ht' : CA F.ref1_trim [av] (Sx σ []) = .ok r (Sx σ []) := ht
      simp only [go_sem, ↓reduceIte, Nat.reduceMod, Nat.reduceEqDiff, Nat.reduceAdd, Nat.reduceMul, Nat.reduceSub, Nat.reduceLeDiff, Nat.reduceLT, Int.reduceEq, Int.reduceLT, Int.reduceLE, Int.reduceAdd, Int.reduceSub, Int.reduceNeg, reduceCtorEq, Nat.reduceShiftRight, Nat.reduceAnd, Nat.reduceBNe, g0, g3, g4, c1, ht', hone]
      exact hset
  all_goals simp only [go_sem, ↓reduceIte, Nat.reduceMod, Nat.reduceEqDiff, Nat.reduceAdd, Nat.reduceMul, Nat.reduceSub, Nat.reduceLeDiff, Nat.reduceLT, Int.reduceEq, Int.reduceLT, Int.reduceLE, Int.reduceAdd, Int.reduceSub, Int.reduceNeg, reduceCtorEq, Nat.reduceShiftRight, Nat.reduceAnd, Nat.reduceBNe]
end Go.Proofs.YtkdkojnlimadnaaDoor
namespace Go.Vm
set_option linter.unusedVariables false
noncomputable def vssboth (a l h : AV) (s : St) : R := a.onStr .no fun t => h.idx (t.length + 1) fun h => l.idx (h + 1) fun l => .ok (.str ((t.take h).drop l)) s
theorem p_ssboth (call : CallT) (f : Fr AV) (s : St) (x l h : CO) : exop (.sslice x (some l) (some h)) call f s = vssboth (ev1 f x) (ev1 f l) (ev1 f h) s := by
  show (ev1 f x).onStr R.no (fun t => bnd (some (ev1 f h)) (ln t) (ln t) fun h1 => bnd (some (ev1 f l)) h1 0 fun lo => .ok (.str (dr lo (tk h1 t))) s) = _
  simp only [ln_eq, dr_eq, tk_eq]; rfl
theorem vssboth_eq {j k : IntKind} {t : List UInt8} {l h : Int} (h0 : 0 ≤ l) (h1 : l ≤ h) (h2 : h ≤ t.length) (s : St) : vssboth (.str t) (.int k l) (.int j h) s = .ok (.str ((t.take h.toNat).drop l.toNat)) s := by
  show (AV.int j h).idx (t.length + 1) (fun h => (AV.int k l).idx (h + 1) fun l => .ok (.str ((t.take h).drop l)) s) = _
  rw [idx_eq (by omega) (by omega), idx_eq (by omega) (by omega)]
attribute [go_sem] p_ssboth
end Go.Vm
namespace Go.Proofs.YtkdkojnlimadnaaDoor
open Go Go.Vm Go.Lib
set_option linter.unusedVariables false
set_option linter.unusedSimpArgs false
/-- Is it within the sign's parentheses? -/
theorem signed_or (l : List UInt8) : (4 < l.length ∧ l.take 3 = [40, 45, 32] ∧ l[l.length - 1]? = some 41 ∧ parseZ l = parseR true ((l.take (l.length - 1)).drop 3)) ∨ (¬ (4 < l.length ∧ l.take 3 = [40, 45, 32] ∧ l[l.length - 1]? = some 41) ∧ parseZ l = parseR false l) := by
  by_cases h : 4 < l.length ∧ l.take 3 = [40, 45, 32] ∧ l[l.length - 1]? = some 41
  · left
    obtain ⟨h1, h2, h3⟩ := h
    refine ⟨h1, h2, h3, ?_⟩
    have e1 : l = l.take (l.length - 1) ++ [41] := by
      obtain ⟨h4, h5⟩ := List.getElem?_eq_some_iff.1 h3
      conv => lhs; rw [← List.take_append_drop (l.length - 1) l]
      congr 1
      rw [List.drop_eq_getElem_cons h4, h5, List.drop_of_length_le (by omega)]
    have e2 : l.take (l.length - 1) = [40, 45, 32] ++ (l.take (l.length - 1)).drop 3 := by
      conv => lhs; rw [← List.take_append_drop 3 (l.take (l.length - 1))]
      rw [List.take_take, show min 3 (l.length - 1) = 3 by omega, h2]
    have e3 : l = inSign ((l.take (l.length - 1)).drop 3) := by
      unfold inSign
      rw [← e2, ← e1]
    conv => lhs; rw [e3, parse_sign]
  · right
    refine ⟨h, ?_⟩
    have hnn : ∀ x : List UInt8, hasPrefix x [40, 45, 32] = true → isNum x = false := by
      intro x hx
      cases x with
      | nil => simp [hasPrefix, List.isPrefixOf] at hx
      | cons c r =>
        have : c = 40 := by unfold hasPrefix at hx; rw [List.isPrefixOf_iff_prefix] at hx; obtain ⟨t, ht⟩ := hx; exact (List.cons.inj ht).1.symm
        subst this
        unfold isNum
        rw [List.all_cons, show isDig 40 = false by decide]; rfl
    unfold parseZ
    by_cases hp : hasPrefix l [40, 45, 32] = true
    · rw [if_pos hp]
      have hR : parseR false l = (⟨false, []⟩, 10) := by unfold parseR; rw [if_pos (.inl (hnn l hp))]
      rw [hR]
      by_cases hs : hasSuffix (l.drop 3) [41] = true
      · rw [if_pos hs]
        unfold hasPrefix at hp
        unfold hasSuffix at hs
        rw [List.isPrefixOf_iff_prefix] at hp
        rw [List.isSuffixOf_iff_suffix] at hs
        obtain ⟨r, rfl⟩ := hp
        obtain ⟨d, hd⟩ := hs
        have hd2 : r = d ++ [41] := hd.symm
        subst hd2
        have hdn : d = [] := by
          apply Classical.byContradiction
          intro hne
          apply h
          have hl : 0 < d.length := List.length_pos_iff.2 hne
          refine ⟨by simp; omega, rfl, ?_⟩
          rw [← List.append_assoc, List.length_append]
          simp
        subst hdn
        decide
      · rw [if_neg hs]
    · rw [if_neg hp]
theorem ref_parse_ok [Tel] (s : St) (l : List UInt8) (hr : Room s) (hn : s.n.val ≤ 40000) (hl : l.length ≤ 5000) : ∃ r, CA F.ref1_Parse [.str l] s = .ok (.tup [.agg [.bool (parseZ l).1.neg, r], .int .i64 (parseZ l).2]) s ∧ ∀ t, Nats t r (parseZ l).1.mag := by
  have hr1 : Room (Sx s [.cells [.bool false, .nils]]) := hr.Sx (by simp; omega) (by simp)
  have hw : IntKind.wrap .i64 ((l.length : Int) - 1) = (l.length : Int) - 1 := wrap_i64 (by omega) (by omega)
  have hsh : 4 < l.length → ∀ σ, vsshi (.str l) (.int .i64 3) σ = .ok (.str (l.take 3)) σ := fun h σ => vsshi_eq (j := .i64) (i := 3) (by omega) (by omega) σ
  rcases signed_or l with ⟨b1, b2, b3, e⟩ | ⟨b, e⟩
  · rw [e]
    have b1' : (4 : Int) < (l.length : Int) := by omega
    have hsh := hsh b1
    rw [b2] at hsh
    obtain ⟨b4, b5⟩ := List.getElem?_eq_some_iff.1 b3
    have hix : ∀ σ, vsidx (.str l) (.int .i64 ((l.length : Int) - 1)) σ = .ok (.int .u8 41) σ := fun σ => by
      have := vsidx_n b4 .i64 σ
      rw [b5, show ((l.length - 1 : Nat) : Int) = (l.length : Int) - 1 by omega] at this
      exact this
    have hsb : ∀ σ, vssboth (.str l) (.int .i64 3) (.int .i64 ((l.length : Int) - 1)) σ = .ok (.str ((l.take (l.length - 1)).drop 3)) σ := fun σ => by
      have := vssboth_eq (t := l) (j := .i64) (k := .i64) (l := 3) (h := (l.length : Int) - 1) (by omega) (by omega) (by omega) σ
      rw [show ((l.length : Int) - 1).toNat = l.length - 1 by omega] at this
      exact this
    have hdl : ((l.take (l.length - 1)).drop 3).length ≤ 5000 := by rw [List.length_drop, List.length_take]; omega
    generalize (l.take (l.length - 1)).drop 3 = d at *
    have hnum := ref_numeral_ok (Sx s [.cells [.bool false, .nils]]) d (by omega)
    by_cases c1 : isNum d = true
    · rw [c1] at hnum
      by_cases c2 : true = true ∧ d = [48]
      · have e : parseR true d = (⟨false, []⟩, 10) := if_pos (.inr c2)
        rw [e]
        refine ⟨.nils, ?_, nats_nil⟩
        refine fn_of code_ref1_Parse (by simp) ?_
        simp only [go_sem, ↓reduceIte, Nat.reduceMod, Nat.reduceEqDiff, Nat.reduceAdd, Nat.reduceMul, Nat.reduceSub, Nat.reduceLeDiff, Nat.reduceLT, Int.reduceEq, Int.reduceLT, Int.reduceLE, Int.reduceAdd, Int.reduceSub, Int.reduceNeg, reduceCtorEq, Nat.reduceShiftRight, Nat.reduceAnd, Nat.reduceBNe, Bool.not_true, Bool.not_false, hr, b1', hw, hsh, hix, hsb, hnum, decide_eq_true c2.2]
        exact settled_ov (ext_Sx hr (by simp)) (ov_tup (by intro c hc; simp at hc; rcases hc with rfl | rfl; exact ov2 (ov_bool _ _) (ov_nils _); exact ov_int _ _ _))
      · have e0 : ¬ (isNum d = false ∨ (true = true ∧ d = [48])) := by rw [c1]; simp at c2 ⊢; try exact c2
        by_cases c3 : (360 : Int) < (d.length : Int)
        · have e : parseR true d = (⟨false, []⟩, 11) := by unfold parseR; rw [if_neg e0, if_pos (by omega)]
          rw [e]
          refine ⟨.nils, ?_, nats_nil⟩
          refine fn_of code_ref1_Parse (by simp) ?_
          simp only [go_sem, ↓reduceIte, Nat.reduceMod, Nat.reduceEqDiff, Nat.reduceAdd, Nat.reduceMul, Nat.reduceSub, Nat.reduceLeDiff, Nat.reduceLT, Int.reduceEq, Int.reduceLT, Int.reduceLE, Int.reduceAdd, Int.reduceSub, Int.reduceNeg, reduceCtorEq, Nat.reduceShiftRight, Nat.reduceAnd, Nat.reduceBNe, Bool.not_true, Bool.not_false, hr, b1', hw, hsh, hix, hsb, hnum, decide_eq_false (fun e => c2 ⟨rfl, e⟩), c3]
          exact settled_ov (ext_Sx hr (by simp)) (ov_tup (by intro c hc; simp at hc; rcases hc with rfl | rfl; exact ov2 (ov_bool _ _) (ov_nils _); exact ov_int _ _ _))
        · have e : parseR true d = (⟨true, lims (dv d)⟩, 0) := by unfold parseR; rw [if_neg e0, if_neg (by omega)]
          rw [e]
          have had : d.all isDig = true := by unfold isNum at c1; simp only [Bool.and_eq_true] at c1; exact c1.1
          have hd0 : d ≠ [] := by intro e; rw [e] at c1; exact absurd c1 (by decide)
          have hnat := natural_ok (Sx s [.cells [.bool false, .nils]]) d hr1 (by rw [Sx_n hr (by simp)]; simp; omega) (by omega) hd0 had
          have hcl := chunk_len _ d (Nat.le_refl _)
          have hnt := fun t => nats_trim (s := t) (chunk d) (by omega) (trim0 (chunk d)).length false
          rw [limbs_eq had] at hnat hnt
          have hsg := ref1_sign_ok (Sx s [.cells [.bool false, .nils]]) true _ _ hr1 (hnt _)
          have hpos : decide (lims (dv d) ≠ []) = true := by
            rw [decide_eq_true_eq]
            rcases num_limbs c1 with ⟨h1, h2⟩ | ⟨h1, h2⟩
            · exfalso
              unfold isNum at c1
              simp only [Bool.and_eq_true, Bool.or_eq_true, decide_eq_true_eq] at c1
              rcases c1.2 with h3 | ⟨_, h3⟩
              · exact c2 ⟨rfl, h3⟩
              · cases d with
                | nil => exact absurd rfl hd0
                | cons x r =>
                  have hx : isDig x = true := by have := c1.1; simp only [List.all_cons, Bool.and_eq_true] at this; exact this.1
                  unfold isDig at hx
                  simp only [Bool.and_eq_true, decide_eq_true_eq] at hx
                  have hx2 : 49 ≤ x.toNat := by
                    have : x.toNat ≠ 48 := fun e => h3 (by rw [List.head?_cons]; congr 1; exact UInt8.toNat_inj.1 e)
                    omega
                  have hv := val_lims (dv (x :: r))
                  rw [h2] at hv
                  have := dv_pos (r := r) hx2
                  have h0 : val [] = 0 := rfl
                  omega
            · rw [h2]; rw [chunk_pos hd0]; simp
          rw [hpos] at hsg
          generalize AV.ts (cellsN (chunk d)) (lims (dv d)).length (lims (dv d)).length false = r at *
          refine ⟨r, ?_, hnt⟩
          refine fn_of code_ref1_Parse (by simp) ?_
          simp only [go_sem, ↓reduceIte, Nat.reduceMod, Nat.reduceEqDiff, Nat.reduceAdd, Nat.reduceMul, Nat.reduceSub, Nat.reduceLeDiff, Nat.reduceLT, Int.reduceEq, Int.reduceLT, Int.reduceLE, Int.reduceAdd, Int.reduceSub, Int.reduceNeg, reduceCtorEq, Nat.reduceShiftRight, Nat.reduceAnd, Nat.reduceBNe, Bool.not_true, Bool.not_false, hr, b1', hw, hsh, hix, hsb, hnum, decide_eq_false (fun e => c2 ⟨rfl, e⟩), c3, hnat, hsg, (hnt s).one]
          exact settled_ov (ext_Sx hr (by simp)) (ov_tup (by intro c hc; simp at hc; rcases hc with rfl | rfl; exact ov2 (ov_bool _ _) (hnt s).sl.ov; exact ov_int _ _ _))
    · rw [Bool.not_eq_true] at c1
      rw [c1] at hnum
      have e : parseR true d = (⟨false, []⟩, 10) := if_pos (.inl c1)
      rw [e]
      refine ⟨.nils, ?_, nats_nil⟩
      refine fn_of code_ref1_Parse (by simp) ?_
      simp only [go_sem, ↓reduceIte, Nat.reduceMod, Nat.reduceEqDiff, Nat.reduceAdd, Nat.reduceMul, Nat.reduceSub, Nat.reduceLeDiff, Nat.reduceLT, Int.reduceEq, Int.reduceLT, Int.reduceLE, Int.reduceAdd, Int.reduceSub, Int.reduceNeg, reduceCtorEq, Nat.reduceShiftRight, Nat.reduceAnd, Nat.reduceBNe, Bool.not_true, Bool.not_false, hr, b1', hw, hsh, hix, hsb, hnum]
      exact settled_ov (ext_Sx hr (by simp)) (ov_tup (by intro c hc; simp at hc; rcases hc with rfl | rfl; exact ov2 (ov_bool _ _) (ov_nils _); exact ov_int _ _ _))
  · rw [e]
    -- what the test comes to
    by_cases a1 : (4 : Int) < (l.length : Int)
    · have hsh := hsh (by omega)
      by_cases a2 : l.take 3 = [40, 45, 32]
      · have b4 : l.length - 1 < l.length := by omega
        have a3 : ¬ (l[l.length - 1].toNat : Int) = 41 := by
          intro h
          exact b ⟨by omega, a2, by rw [List.getElem?_eq_getElem b4]; congr 1; exact UInt8.toNat_inj.1 (by show _ = 41; omega)⟩
        have hix : ∀ σ, vsidx (.str l) (.int .i64 ((l.length : Int) - 1)) σ = .ok (.int .u8 (l[l.length - 1].toNat : Int)) σ := fun σ => by
          have := vsidx_n b4 .i64 σ
          rw [show ((l.length - 1 : Nat) : Int) = (l.length : Int) - 1 by omega] at this
          exact this
        have hnum := ref_numeral_ok (Sx s [.cells [.bool false, .nils]]) l (by omega)
        by_cases c1 : isNum l = true
        · rw [c1] at hnum
          by_cases c2 : false = true ∧ l = [48]
          · exact absurd c2.1 (by decide)
          · have e0 : ¬ (isNum l = false ∨ (false = true ∧ l = [48])) := by rw [c1]; simp at c2 ⊢; try exact c2
            by_cases c3 : (360 : Int) < (l.length : Int)
            · have e : parseR false l = (⟨false, []⟩, 11) := by unfold parseR; rw [if_neg e0, if_pos (by omega)]
              rw [e]
              refine ⟨.nils, ?_, nats_nil⟩
              refine fn_of code_ref1_Parse (by simp) ?_
              simp only [go_sem, ↓reduceIte, Nat.reduceMod, Nat.reduceEqDiff, Nat.reduceAdd, Nat.reduceMul, Nat.reduceSub, Nat.reduceLeDiff, Nat.reduceLT, Int.reduceEq, Int.reduceLT, Int.reduceLE, Int.reduceAdd, Int.reduceSub, Int.reduceNeg, reduceCtorEq, Nat.reduceShiftRight, Nat.reduceAnd, Nat.reduceBNe, Bool.not_true, Bool.not_false, hr, a1, hw, hsh, decide_eq_true a2, hix, a3, hnum, c3]
              exact settled_ov (ext_Sx hr (by simp)) (ov_tup (by intro c hc; simp at hc; rcases hc with rfl | rfl; exact ov2 (ov_bool _ _) (ov_nils _); exact ov_int _ _ _))
            · have e : parseR false l = (⟨false, lims (dv l)⟩, 0) := by unfold parseR; rw [if_neg e0, if_neg (by omega)]
              rw [e]
              have had : l.all isDig = true := by unfold isNum at c1; simp only [Bool.and_eq_true] at c1; exact c1.1
              have hd0 : l ≠ [] := by intro e; rw [e] at c1; exact absurd c1 (by decide)
              have hnat := natural_ok (Sx s [.cells [.bool false, .nils]]) l hr1 (by rw [Sx_n hr (by simp)]; simp; omega) (by omega) hd0 had
              have hcl := chunk_len _ l (Nat.le_refl _)
              have hnt := fun t => nats_trim (s := t) (chunk l) (by omega) (trim0 (chunk l)).length false
              rw [limbs_eq had] at hnat hnt
              have hsg := ref1_sign_ok (Sx s [.cells [.bool false, .nils]]) false _ _ hr1 (hnt _)
              generalize AV.ts (cellsN (chunk l)) (lims (dv l)).length (lims (dv l)).length false = r at *
              refine ⟨r, ?_, hnt⟩
              refine fn_of code_ref1_Parse (by simp) ?_
              simp only [go_sem, ↓reduceIte, Nat.reduceMod, Nat.reduceEqDiff, Nat.reduceAdd, Nat.reduceMul, Nat.reduceSub, Nat.reduceLeDiff, Nat.reduceLT, Int.reduceEq, Int.reduceLT, Int.reduceLE, Int.reduceAdd, Int.reduceSub, Int.reduceNeg, reduceCtorEq, Nat.reduceShiftRight, Nat.reduceAnd, Nat.reduceBNe, Bool.not_true, Bool.not_false, hr, a1, hw, hsh, decide_eq_true a2, hix, a3, hnum, c3, hnat, hsg, Bool.false_and, (hnt s).one]
              exact settled_ov (ext_Sx hr (by simp)) (ov_tup (by intro c hc; simp at hc; rcases hc with rfl | rfl; exact ov2 (ov_bool _ _) (hnt s).sl.ov; exact ov_int _ _ _))
        · rw [Bool.not_eq_true] at c1
          rw [c1] at hnum
          have e : parseR false l = (⟨false, []⟩, 10) := if_pos (.inl c1)
          rw [e]
          refine ⟨.nils, ?_, nats_nil⟩
          refine fn_of code_ref1_Parse (by simp) ?_
          simp only [go_sem, ↓reduceIte, Nat.reduceMod, Nat.reduceEqDiff, Nat.reduceAdd, Nat.reduceMul, Nat.reduceSub, Nat.reduceLeDiff, Nat.reduceLT, Int.reduceEq, Int.reduceLT, Int.reduceLE, Int.reduceAdd, Int.reduceSub, Int.reduceNeg, reduceCtorEq, Nat.reduceShiftRight, Nat.reduceAnd, Nat.reduceBNe, Bool.not_true, Bool.not_false, hr, a1, hw, hsh, decide_eq_true a2, hix, a3, hnum]
          exact settled_ov (ext_Sx hr (by simp)) (ov_tup (by intro c hc; simp at hc; rcases hc with rfl | rfl; exact ov2 (ov_bool _ _) (ov_nils _); exact ov_int _ _ _))
      · skip
        have hnum := ref_numeral_ok (Sx s [.cells [.bool false, .nils]]) l (by omega)
        by_cases c1 : isNum l = true
        · rw [c1] at hnum
          by_cases c2 : false = true ∧ l = [48]
          · exact absurd c2.1 (by decide)
          · have e0 : ¬ (isNum l = false ∨ (false = true ∧ l = [48])) := by rw [c1]; simp at c2 ⊢; try exact c2
            by_cases c3 : (360 : Int) < (l.length : Int)
            · have e : parseR false l = (⟨false, []⟩, 11) := by unfold parseR; rw [if_neg e0, if_pos (by omega)]
              rw [e]
              refine ⟨.nils, ?_, nats_nil⟩
              refine fn_of code_ref1_Parse (by simp) ?_
              simp only [go_sem, ↓reduceIte, Nat.reduceMod, Nat.reduceEqDiff, Nat.reduceAdd, Nat.reduceMul, Nat.reduceSub, Nat.reduceLeDiff, Nat.reduceLT, Int.reduceEq, Int.reduceLT, Int.reduceLE, Int.reduceAdd, Int.reduceSub, Int.reduceNeg, reduceCtorEq, Nat.reduceShiftRight, Nat.reduceAnd, Nat.reduceBNe, Bool.not_true, Bool.not_false, hr, a1, hw, hsh, decide_eq_false a2, hnum, c3]
              exact settled_ov (ext_Sx hr (by simp)) (ov_tup (by intro c hc; simp at hc; rcases hc with rfl | rfl; exact ov2 (ov_bool _ _) (ov_nils _); exact ov_int _ _ _))
            · have e : parseR false l = (⟨false, lims (dv l)⟩, 0) := by unfold parseR; rw [if_neg e0, if_neg (by omega)]
              rw [e]
              have had : l.all isDig = true := by unfold isNum at c1; simp only [Bool.and_eq_true] at c1; exact c1.1
              have hd0 : l ≠ [] := by intro e; rw [e] at c1; exact absurd c1 (by decide)
              have hnat := natural_ok (Sx s [.cells [.bool false, .nils]]) l hr1 (by rw [Sx_n hr (by simp)]; simp; omega) (by omega) hd0 had
              have hcl := chunk_len _ l (Nat.le_refl _)
              have hnt := fun t => nats_trim (s := t) (chunk l) (by omega) (trim0 (chunk l)).length false
              rw [limbs_eq had] at hnat hnt
              have hsg := ref1_sign_ok (Sx s [.cells [.bool false, .nils]]) false _ _ hr1 (hnt _)
              generalize AV.ts (cellsN (chunk l)) (lims (dv l)).length (lims (dv l)).length false = r at *
              refine ⟨r, ?_, hnt⟩
              refine fn_of code_ref1_Parse (by simp) ?_
              simp only [go_sem, ↓reduceIte, Nat.reduceMod, Nat.reduceEqDiff, Nat.reduceAdd, Nat.reduceMul, Nat.reduceSub, Nat.reduceLeDiff, Nat.reduceLT, Int.reduceEq, Int.reduceLT, Int.reduceLE, Int.reduceAdd, Int.reduceSub, Int.reduceNeg, reduceCtorEq, Nat.reduceShiftRight, Nat.reduceAnd, Nat.reduceBNe, Bool.not_true, Bool.not_false, hr, a1, hw, hsh, decide_eq_false a2, hnum, c3, hnat, hsg, Bool.false_and, (hnt s).one]
              exact settled_ov (ext_Sx hr (by simp)) (ov_tup (by intro c hc; simp at hc; rcases hc with rfl | rfl; exact ov2 (ov_bool _ _) (hnt s).sl.ov; exact ov_int _ _ _))
        · rw [Bool.not_eq_true] at c1
          rw [c1] at hnum
          have e : parseR false l = (⟨false, []⟩, 10) := if_pos (.inl c1)
          rw [e]
          refine ⟨.nils, ?_, nats_nil⟩
          refine fn_of code_ref1_Parse (by simp) ?_
          simp only [go_sem, ↓reduceIte, Nat.reduceMod, Nat.reduceEqDiff, Nat.reduceAdd, Nat.reduceMul, Nat.reduceSub, Nat.reduceLeDiff, Nat.reduceLT, Int.reduceEq, Int.reduceLT, Int.reduceLE, Int.reduceAdd, Int.reduceSub, Int.reduceNeg, reduceCtorEq, Nat.reduceShiftRight, Nat.reduceAnd, Nat.reduceBNe, Bool.not_true, Bool.not_false, hr, a1, hw, hsh, decide_eq_false a2, hnum]
          exact settled_ov (ext_Sx hr (by simp)) (ov_tup (by intro c hc; simp at hc; rcases hc with rfl | rfl; exact ov2 (ov_bool _ _) (ov_nils _); exact ov_int _ _ _))
    · skip
      have hnum := ref_numeral_ok (Sx s [.cells [.bool false, .nils]]) l (by omega)
      by_cases c1 : isNum l = true
      · rw [c1] at hnum
        by_cases c2 : false = true ∧ l = [48]
        · exact absurd c2.1 (by decide)
        · have e0 : ¬ (isNum l = false ∨ (false = true ∧ l = [48])) := by rw [c1]; simp at c2 ⊢; try exact c2
          by_cases c3 : (360 : Int) < (l.length : Int)
          · have e : parseR false l = (⟨false, []⟩, 11) := by unfold parseR; rw [if_neg e0, if_pos (by omega)]
            rw [e]
            refine ⟨.nils, ?_, nats_nil⟩
            refine fn_of code_ref1_Parse (by simp) ?_
            simp only [go_sem, ↓reduceIte, Nat.reduceMod, Nat.reduceEqDiff, Nat.reduceAdd, Nat.reduceMul, Nat.reduceSub, Nat.reduceLeDiff, Nat.reduceLT, Int.reduceEq, Int.reduceLT, Int.reduceLE, Int.reduceAdd, Int.reduceSub, Int.reduceNeg, reduceCtorEq, Nat.reduceShiftRight, Nat.reduceAnd, Nat.reduceBNe, Bool.not_true, Bool.not_false, hr, a1, hnum, c3]
            exact settled_ov (ext_Sx hr (by simp)) (ov_tup (by intro c hc; simp at hc; rcases hc with rfl | rfl; exact ov2 (ov_bool _ _) (ov_nils _); exact ov_int _ _ _))
          · have e : parseR false l = (⟨false, lims (dv l)⟩, 0) := by unfold parseR; rw [if_neg e0, if_neg (by omega)]
            rw [e]
            have had : l.all isDig = true := by unfold isNum at c1; simp only [Bool.and_eq_true] at c1; exact c1.1
            have hd0 : l ≠ [] := by intro e; rw [e] at c1; exact absurd c1 (by decide)
            have hnat := natural_ok (Sx s [.cells [.bool false, .nils]]) l hr1 (by rw [Sx_n hr (by simp)]; simp; omega) (by omega) hd0 had
            have hcl := chunk_len _ l (Nat.le_refl _)
            have hnt := fun t => nats_trim (s := t) (chunk l) (by omega) (trim0 (chunk l)).length false
            rw [limbs_eq had] at hnat hnt
            have hsg := ref1_sign_ok (Sx s [.cells [.bool false, .nils]]) false _ _ hr1 (hnt _)
            generalize AV.ts (cellsN (chunk l)) (lims (dv l)).length (lims (dv l)).length false = r at *
            refine ⟨r, ?_, hnt⟩
            refine fn_of code_ref1_Parse (by simp) ?_
            simp only [go_sem, ↓reduceIte, Nat.reduceMod, Nat.reduceEqDiff, Nat.reduceAdd, Nat.reduceMul, Nat.reduceSub, Nat.reduceLeDiff, Nat.reduceLT, Int.reduceEq, Int.reduceLT, Int.reduceLE, Int.reduceAdd, Int.reduceSub, Int.reduceNeg, reduceCtorEq, Nat.reduceShiftRight, Nat.reduceAnd, Nat.reduceBNe, Bool.not_true, Bool.not_false, hr, a1, hnum, c3, hnat, hsg, Bool.false_and, (hnt s).one]
            exact settled_ov (ext_Sx hr (by simp)) (ov_tup (by intro c hc; simp at hc; rcases hc with rfl | rfl; exact ov2 (ov_bool _ _) (hnt s).sl.ov; exact ov_int _ _ _))
      · rw [Bool.not_eq_true] at c1
        rw [c1] at hnum
        have e : parseR false l = (⟨false, []⟩, 10) := if_pos (.inl c1)
        rw [e]
        refine ⟨.nils, ?_, nats_nil⟩
        refine fn_of code_ref1_Parse (by simp) ?_
        simp only [go_sem, ↓reduceIte, Nat.reduceMod, Nat.reduceEqDiff, Nat.reduceAdd, Nat.reduceMul, Nat.reduceSub, Nat.reduceLeDiff, Nat.reduceLT, Int.reduceEq, Int.reduceLT, Int.reduceLE, Int.reduceAdd, Int.reduceSub, Int.reduceNeg, reduceCtorEq, Nat.reduceShiftRight, Nat.reduceAnd, Nat.reduceBNe, Bool.not_true, Bool.not_false, hr, a1, hnum]
        exact settled_ov (ext_Sx hr (by simp)) (ov_tup (by intro c hc; simp at hc; rcases hc with rfl | rfl; exact ov2 (ov_bool _ _) (ov_nils _); exact ov_int _ _ _))
end Go.Proofs.YtkdkojnlimadnaaDoor
namespace Go.Proofs.YtkdkojnlimadnaaDoor
open Go Go.Vm Go.Lib
set_option linter.unusedVariables false
set_option linter.unusedSimpArgs false
theorem padk_cons (k a : Nat) : padk (k + 1) a = UInt8.ofNat (48 + a / 10 ^ k % 10) :: padk k a := by
  induction k generalizing a with
  | zero => simp [padk]
  | succ k ih =>
    rw [padk, ih (a / 10)]
    have e : a / 10 / 10 ^ k = a / 10 ^ (k + 1) := by rw [Nat.div_div_eq_div_mul, Nat.pow_succ, Nat.mul_comm]
    rw [e, List.cons_append]; rfl
/-- The lower limbs' digits. -/
def low (l : List Nat) : Nat → List UInt8
  | 0 => []
  | i + 1 => padk 9 ((l[i]?).getD 0) ++ low l i
theorem low_len (l : List Nat) (i : Nat) : (low l i).length = 9 * i := by
  induction i with
  | zero => rfl
  | succ i ih => rw [low, List.length_append, padk_len, ih]; omega
theorem dec_low_eq {l : List Nat} (h : natIs l = true) (i : Nat) (hi : i + 1 ≤ l.length) : decDigits (val l) = decDigits (val (l.drop i)) ++ low l i := by
  induction i with
  | zero => simp [low]
  | succ i ih =>
    rw [ih (by omega)]
    have hlt : i < l.length := by omega
    have hsm := natIs_small h
    have hv : 0 < val (l.drop (i + 1)) := by
      rcases Nat.eq_zero_or_pos (val (l.drop (i + 1))) with h0 | h0
      · have := (val_zero (natIs_drop h)).1 h0
        have h3 := congrArg List.length this
        simp at h3; omega
      · exact h0
    rw [dec_step hlt (hsm _ (List.getElem_mem hlt)) hv, pad_eq 9 (by omega) (by have := hsm _ (List.getElem_mem hlt); omega), low, List.getElem?_eq_getElem hlt, List.append_assoc]
    rfl
theorem rem_u32 (a : Nat) (s : St) : vbin .rem (.int .u32 (a : Int)) (.int .u32 10) s = .ok (.int .u32 ((a % 10 : Nat) : Int)) s := (vbin_rem s .u32 (a : Int) 10 (by decide)).trans rfl
theorem quo_u32 {a : Nat} (h : a ≤ 4294967295) (s : St) : vbin .quo (.int .u32 (a : Int)) (.int .u32 10) s = .ok (.int .u32 ((a / 10 : Nat) : Int)) s := by
  rw [vbin_quo s .u32 (a : Int) 10 (by decide)]
  have e : Int.tdiv (a : Int) 10 = ((a / 10 : Nat) : Int) := rfl
  rw [e, wrap_u32 (by omega) (by omega)]
theorem ref_nat_ok [Tel] (s : St) (v : AV) (l : List Nat) (hr : Room s) (hn : s.n.val ≤ 40000) (hl : l.length ≤ 100) (hv : Nats s v l) : CA F.ref1_Nat [v] s = .ok (.str (decDigits (vh l))) s := by
  have e1 := hd_is l
  have e3 := hd_len l
  refine fn_of code_ref1_Nat (by simp) ?_
  simp only [go_sem, ↓reduceIte, Nat.reduceMod, Nat.reduceEqDiff, Nat.reduceAdd, Nat.reduceMul, Nat.reduceSub, Nat.reduceLeDiff, Nat.reduceLT, Int.reduceEq, Int.reduceLT, Int.reduceLE, Int.reduceAdd, Int.reduceSub, Int.reduceNeg, reduceCtorEq, Nat.reduceShiftRight, Nat.reduceAnd, Nat.reduceBNe, ref1_nat_ok (Sx s []) v l hv]
  have hv1 := held_rep hv
  unfold vh
  generalize hd l = L at *
  generalize (if natIs l = true then v else .nils) = v at hv1 ⊢
  by_cases c0 : L.length = 0
  · have e : L = [] := List.eq_nil_of_length_eq_zero c0
    have c0' : (L.length : Int) = 0 := by omega
    simp only [go_sem, ↓reduceIte, Nat.reduceMod, Nat.reduceEqDiff, Nat.reduceAdd, Nat.reduceMul, Nat.reduceSub, Nat.reduceLeDiff, Nat.reduceLT, Int.reduceEq, Int.reduceLT, Int.reduceLE, Int.reduceAdd, Int.reduceSub, Int.reduceNeg, reduceCtorEq, Nat.reduceShiftRight, Nat.reduceAnd, Nat.reduceBNe, hv1.vlen, c0']
    rw [e, show decDigits (val []) = [48] from dec_small (a := 0) (by omega)]
    exact settled_ov (Ext.refl s) (ov_str _ _)
  · have c0' : ¬ (L.length : Int) = 0 := by omega
    have hsm := natIs_small e1
    have ew : IntKind.wrap .i64 ((L.length : Int) - 1) = (L.length : Int) - 1 := wrap_i64 (by omega) (by omega)
    simp only [go_sem, ↓reduceIte, Nat.reduceMod, Nat.reduceEqDiff, Nat.reduceAdd, Nat.reduceMul, Nat.reduceSub, Nat.reduceLeDiff, Nat.reduceLT, Int.reduceEq, Int.reduceLT, Int.reduceLE, Int.reduceAdd, Int.reduceSub, Int.reduceNeg, reduceCtorEq, Nat.reduceShiftRight, Nat.reduceAnd, Nat.reduceBNe, hv1.vlen, c0']
    refine W_inv (fun k f τ => ∃ (i : Nat) (T : List UInt8) (σ : St), Sx σ [] = τ ∧ Room σ ∧ Ext s σ ∧ σ.n.val ≤ s.n.val + 9 * i ∧ k = L.length - i ∧ i ≤ L.length ∧ (i < L.length → T = low L i) ∧ (i = L.length → T = decDigits (val L)) ∧ (vv 3).get f = v ∧ (vv 4).get f = .str T ∧ (vv 5).get f = .int .i64 (i : Int)) ?_ ⟨0, [], s, rfl, hr, Ext.refl s, by omega, rfl, by omega, fun _ => rfl, fun h => absurd h.symm c0, ?_, ?_, ?_⟩
    · rintro k f τ ⟨i, T, σ, rfl, hr1, hx, hn1, rfl, hi, hT1, hT2, g3, g4, g5⟩
      have hv2 := hv1.x hx
      by_cases c1 : i < L.length
      · have hTl := hT1 c1
        have hai : L[i] < 1000000000 := hsm _ (List.getElem_mem c1)
        simp only [go_sem, ↓reduceIte, Nat.reduceMod, Nat.reduceEqDiff, Nat.reduceAdd, Nat.reduceMul, Nat.reduceSub, Nat.reduceLeDiff, Nat.reduceLT, Int.reduceEq, Int.reduceLT, Int.reduceLE, Int.reduceAdd, Int.reduceSub, Int.reduceNeg, reduceCtorEq, Nat.reduceShiftRight, Nat.reduceAnd, Nat.reduceBNe, g3, g4, g5, Int.ofNat_lt, c1, hv2.vlen, hv2.ia c1, hv2.u32 c1]
        generalize ha : L[i] = a at *
        refine W_inv (fun k f τ => ∃ (j : Nat) (σ' : St), Sx σ' [] = τ ∧ Room σ' ∧ Ext s σ' ∧ σ'.n.val ≤ σ.n.val + j ∧ k = 9 - j ∧ j ≤ 9 ∧ (1 ≤ j → i + 1 = L.length → 10 ^ (j - 1) ≤ a) ∧ (vv 3).get f = v ∧ (vv 4).get f = .str (padk j a ++ T) ∧ (vv 5).get f = .int .i64 (i : Int) ∧ (vv 6).get f = .int .u32 ((a / 10 ^ j : Nat) : Int) ∧ (vv 7).get f = .int .i64 (j : Int)) ?_ ⟨0, σ, rfl, hr1, hx, by omega, rfl, by omega, fun h => by omega, ?_, ?_, ?_, ?_, ?_⟩
        · rintro k f τ ⟨j, σ', rfl, hr2, hx2, hn2, rfl, hj, hlow, g3, g4, g5, g6, g7⟩
          have hv3 := hv1.x hx2
          have hTlen : T.length = 9 * i := by rw [hTl, low_len]
          generalize hq : a / 10 ^ j = q at *
          have hqa : q ≤ a := by rw [← hq]; exact Nat.div_le_self _ _
          have hrem := fun σ => rem_u32 q σ
          have hquo := fun σ => quo_u32 (a := q) (by omega) σ
          have w0 : IntKind.wrap .u32 (48 + ((q % 10 : Nat) : Int)) = ((48 + q % 10 : Nat) : Int) := by rw [wrap_u32 (by omega) (by omega)]; omega
          have w1 : IntKind.wrap .u8 ((48 + q % 10 : Nat) : Int) = ((48 + q % 10 : Nat) : Int) := wrap_u8 (by omega) (by omega)
          have hs1 := vtostr_one (s := σ') (L := [.cells [.int .u8 ((48 + q % 10 : Nat) : Int)]]) (n := ((48 + q % 10 : Nat) : Int)) hr2 (by simp) (i := 0) rfl
          rw [Int.toNat_natCast] at hs1
          have hpk := padk_cons j a
          rw [hq] at hpk
          generalize UInt8.ofNat (48 + q % 10) = dd at *
          have hsa : ∀ σ, vbin .add (.str [dd]) (.str (padk j a ++ T)) σ = .ok (.str (dd :: (padk j a ++ T))) σ := fun σ => vbin_sadd σ _ _ (by simp [padk_len]; omega)
          have hq2 : a / 10 ^ (j + 1) = q / 10 := by rw [← hq, Nat.div_div_eq_div_mul, Nat.pow_succ]
          have hfin : ∀ (hex : j = 9 ∨ (i + 1 = L.length ∧ q = 0)), (i + 1 < L.length → padk j a ++ T = low L (i + 1)) ∧ (i + 1 = L.length → padk j a ++ T = decDigits (val L)) := by
            intro hex
            constructor
            · intro h
              have : j = 9 := by omega
              rw [low, List.getElem?_eq_getElem c1, ha, hTl, this]; rfl
            · intro h
              have hd : L.drop i = [a] := by rw [List.drop_eq_getElem_cons c1, List.drop_of_length_le (by omega), ha]
              have ha0 : a ≠ 0 := by
                have hlast := e1
                unfold natIs at hlast
                simp only [Bool.and_eq_true, decide_eq_true_eq] at hlast
                intro h0
                apply hlast.2
                have hk : ∀ (k : Nat) (hk : k < L.length), k = i → L[k] = a := by rintro k hk rfl; exact ha
                rw [last_eq (by omega), hk _ _ (by omega), h0]
              have hj1 : 1 ≤ j := by
                rcases Nat.eq_zero_or_pos j with h0 | h0
                · rw [h0] at hq; simp at hq; omega
                · exact h0
              have hup : a < 10 ^ j := by
                rcases hex with h9 | ⟨_, h9⟩
                · rw [h9]; omega
                · rw [h9] at hq
                  have := (Nat.div_eq_zero_iff (a := a) (b := 10 ^ j)).1 hq
                  rcases this with h8 | h8
                  · have := Nat.pow_pos (n := j) (show 0 < 10 by omega); omega
                  · exact h8
              obtain ⟨m, rfl⟩ : ∃ m, j = m + 1 := ⟨j - 1, by omega⟩
              have hdec : decDigits a = padk (m + 1) a := dec_padk (hlow (by omega) h) hup
              rw [dec_low_eq e1 i (by omega), hd, show val [a] = a by simp [val], hdec, hTl]
          by_cases d1 : j < 9
          · have d1' : (j : Int) < 9 := by omega
            by_cases d2 : i + 1 < L.length
            · have d2' : (i : Int) < (L.length : Int) - 1 := by omega
              simp only [go_sem, ↓reduceIte, Nat.reduceMod, Nat.reduceEqDiff, Nat.reduceAdd, Nat.reduceMul, Nat.reduceSub, Nat.reduceLeDiff, Nat.reduceLT, Int.reduceEq, Int.reduceLT, Int.reduceLE, Int.reduceAdd, Int.reduceSub, Int.reduceNeg, reduceCtorEq, Nat.reduceShiftRight, Nat.reduceAnd, Nat.reduceBNe, g3, g4, g5, g6, g7, d1', d2', hv3.vlen, ew, hrem, hquo, w0, w1, hr2, hs1, hsa]
              refine ⟨9 - (j + 1), by omega, j + 1, _, Sx_nil _, hr2.Sx (by simp; omega) (by simp), hx2.trans (ext_Sx hr2 (by simp)), ?_, rfl, by omega, fun _ h => by omega, ?_⟩
              · rw [Sx_n hr2 (by simp)]; simp; omega
              · rw [hpk, hq2, wrap_i64 (by omega) (by omega)]; exact ⟨rfl, rfl, rfl⟩
            · have d2' : ¬ (i : Int) < (L.length : Int) - 1 := by omega
              by_cases d3 : 0 < q
              · have d3' : (0 : Int) < (q : Int) := by omega
                simp only [go_sem, ↓reduceIte, Nat.reduceMod, Nat.reduceEqDiff, Nat.reduceAdd, Nat.reduceMul, Nat.reduceSub, Nat.reduceLeDiff, Nat.reduceLT, Int.reduceEq, Int.reduceLT, Int.reduceLE, Int.reduceAdd, Int.reduceSub, Int.reduceNeg, reduceCtorEq, Nat.reduceShiftRight, Nat.reduceAnd, Nat.reduceBNe, g3, g4, g5, g6, g7, d1', d2', d3', hv3.vlen, ew, hrem, hquo, w0, w1, hr2, hs1, hsa]
                refine ⟨9 - (j + 1), by omega, j + 1, _, Sx_nil _, hr2.Sx (by simp; omega) (by simp), hx2.trans (ext_Sx hr2 (by simp)), ?_, rfl, by omega, fun _ _ => ?_, ?_⟩
                · rw [Sx_n hr2 (by simp)]; simp; omega
                · rw [Nat.add_sub_cancel]
                  apply Decidable.byContradiction
                  intro hlt
                  rw [Nat.div_eq_of_lt (by omega)] at hq
                  omega
                · rw [hpk, hq2, wrap_i64 (by omega) (by omega)]; exact ⟨rfl, rfl, rfl⟩
              · have d3' : ¬ (0 : Int) < (q : Int) := by omega
                obtain ⟨f1, f2⟩ := hfin (.inr ⟨by omega, by omega⟩)
                simp only [go_sem, ↓reduceIte, Nat.reduceMod, Nat.reduceEqDiff, Nat.reduceAdd, Nat.reduceMul, Nat.reduceSub, Nat.reduceLeDiff, Nat.reduceLT, Int.reduceEq, Int.reduceLT, Int.reduceLE, Int.reduceAdd, Int.reduceSub, Int.reduceNeg, reduceCtorEq, Nat.reduceShiftRight, Nat.reduceAnd, Nat.reduceBNe, g3, g4, g5, g6, g7, d1', d2', d3', hv3.vlen, ew]
                refine ⟨L.length - (i + 1), by omega, i + 1, _, σ', rfl, hr2, hx2, by omega, rfl, by omega, f1, f2, ?_⟩
                rw [wrap_i64 (by omega) (by omega)]; exact ⟨rfl, rfl⟩
          · have d1' : ¬ (j : Int) < 9 := by omega
            obtain ⟨f1, f2⟩ := hfin (.inl (by omega))
            simp only [go_sem, ↓reduceIte, Nat.reduceMod, Nat.reduceEqDiff, Nat.reduceAdd, Nat.reduceMul, Nat.reduceSub, Nat.reduceLeDiff, Nat.reduceLT, Int.reduceEq, Int.reduceLT, Int.reduceLE, Int.reduceAdd, Int.reduceSub, Int.reduceNeg, reduceCtorEq, Nat.reduceShiftRight, Nat.reduceAnd, Nat.reduceBNe, g3, g4, g5, g6, g7, d1', hv3.vlen, ew]
            refine ⟨L.length - (i + 1), by omega, i + 1, _, σ', rfl, hr2, hx2, by omega, rfl, by omega, f1, f2, ?_⟩
            rw [wrap_i64 (by omega) (by omega)]; exact ⟨rfl, rfl⟩
        · simp only [go_sem, ↓reduceIte, Nat.reduceMod, Nat.reduceEqDiff, Nat.reduceAdd, Nat.reduceMul, Nat.reduceSub, Nat.reduceLeDiff, Nat.reduceLT, Int.reduceEq, Int.reduceLT, Int.reduceLE, Int.reduceAdd, Int.reduceSub, Int.reduceNeg, reduceCtorEq, Nat.reduceShiftRight, Nat.reduceAnd, Nat.reduceBNe, g3]
        · simp only [go_sem, ↓reduceIte, Nat.reduceMod, Nat.reduceEqDiff, Nat.reduceAdd, Nat.reduceMul, Nat.reduceSub, Nat.reduceLeDiff, Nat.reduceLT, Int.reduceEq, Int.reduceLT, Int.reduceLE, Int.reduceAdd, Int.reduceSub, Int.reduceNeg, reduceCtorEq, Nat.reduceShiftRight, Nat.reduceAnd, Nat.reduceBNe, g4]
          rfl
        · simp only [go_sem, ↓reduceIte, Nat.reduceMod, Nat.reduceEqDiff, Nat.reduceAdd, Nat.reduceMul, Nat.reduceSub, Nat.reduceLeDiff, Nat.reduceLT, Int.reduceEq, Int.reduceLT, Int.reduceLE, Int.reduceAdd, Int.reduceSub, Int.reduceNeg, reduceCtorEq, Nat.reduceShiftRight, Nat.reduceAnd, Nat.reduceBNe, g5]
        · simp only [go_sem, ↓reduceIte, Nat.reduceMod, Nat.reduceEqDiff, Nat.reduceAdd, Nat.reduceMul, Nat.reduceSub, Nat.reduceLeDiff, Nat.reduceLT, Int.reduceEq, Int.reduceLT, Int.reduceLE, Int.reduceAdd, Int.reduceSub, Int.reduceNeg, reduceCtorEq, Nat.reduceShiftRight, Nat.reduceAnd, Nat.reduceBNe]
          simp
        · simp only [go_sem, ↓reduceIte, Nat.reduceMod, Nat.reduceEqDiff, Nat.reduceAdd, Nat.reduceMul, Nat.reduceSub, Nat.reduceLeDiff, Nat.reduceLT, Int.reduceEq, Int.reduceLT, Int.reduceLE, Int.reduceAdd, Int.reduceSub, Int.reduceNeg, reduceCtorEq, Nat.reduceShiftRight, Nat.reduceAnd, Nat.reduceBNe]
          rfl
      · have hiL : i = L.length := by omega
        simp only [go_sem, ↓reduceIte, Nat.reduceMod, Nat.reduceEqDiff, Nat.reduceAdd, Nat.reduceMul, Nat.reduceSub, Nat.reduceLeDiff, Nat.reduceLT, Int.reduceEq, Int.reduceLT, Int.reduceLE, Int.reduceAdd, Int.reduceSub, Int.reduceNeg, reduceCtorEq, Nat.reduceShiftRight, Nat.reduceAnd, Nat.reduceBNe, g3, g4, g5, Int.ofNat_lt, c1, hv2.vlen]
        rw [hT2 hiL]
        exact settled_ov hx (ov_str _ _)
    · simp only [go_sem, ↓reduceIte, Nat.reduceMod, Nat.reduceEqDiff, Nat.reduceAdd, Nat.reduceMul, Nat.reduceSub, Nat.reduceLeDiff, Nat.reduceLT, Int.reduceEq, Int.reduceLT, Int.reduceLE, Int.reduceAdd, Int.reduceSub, Int.reduceNeg, reduceCtorEq, Nat.reduceShiftRight, Nat.reduceAnd, Nat.reduceBNe]
    · simp only [go_sem, ↓reduceIte, Nat.reduceMod, Nat.reduceEqDiff, Nat.reduceAdd, Nat.reduceMul, Nat.reduceSub, Nat.reduceLeDiff, Nat.reduceLT, Int.reduceEq, Int.reduceLT, Int.reduceLE, Int.reduceAdd, Int.reduceSub, Int.reduceNeg, reduceCtorEq, Nat.reduceShiftRight, Nat.reduceAnd, Nat.reduceBNe]
    · simp only [go_sem, ↓reduceIte, Nat.reduceMod, Nat.reduceEqDiff, Nat.reduceAdd, Nat.reduceMul, Nat.reduceSub, Nat.reduceLeDiff, Nat.reduceLT, Int.reduceEq, Int.reduceLT, Int.reduceLE, Int.reduceAdd, Int.reduceSub, Int.reduceNeg, reduceCtorEq, Nat.reduceShiftRight, Nat.reduceAnd, Nat.reduceBNe]
      rfl
theorem ref_print_ok [Tel] (s : St) (n m : AV) (z : Z) (hr : Room s) (hn : s.n.val ≤ 30000) (hl : z.mag.length ≤ 100) (hz : RZ s n m z) : CA F.ref1_Print [.agg [n, m]] s = .ok (.str (zText z)) s := by
  have hx := ext_Sx (s := s) (l := [.cells [n, m]]) hr (by simp)
  have hcall := may_ok (Sx s [.cells [n, m]]) n m z (hr.Sx (by simp; omega) (by simp)) (by rw [Sx_n hr (by simp)]; simp; omega) (hz.x hx)
  have hz1 := zh_rep hz
  have hl1 := zh_len hl
  have hnat := zh_nat z
  rw [if_cells2] at hcall
  unfold zText
  generalize zh z = y at hz1 hl1 hnat ⊢
  generalize (if zIs z = true then n else AV.bool false) = n' at hcall hz1
  generalize (if zIs z = true then m else AV.nils) = m' at hcall hz1
  obtain ⟨yn, ym⟩ := y
  obtain ⟨rfl, hz2⟩ := hz1
  simp only at hz2 hl1 hnat ⊢
  have hx2 := ext_Sx (s := s) (l := [.cells [n, m], .cells [.bool yn, m']]) hr (by simp)
  have hN := ref_nat_ok (Sx s [.cells [n, m], .cells [.bool yn, m']]) m' ym (hr.Sx (by simp; omega) (by simp)) (by rw [Sx_n hr (by simp)]; simp; omega) hl1 (hz2.x hx2)
  rw [vh_is hnat] at hN
  have hdl : (decDigits (val ym)).length ≤ 1000 := by
    by_cases h0 : ym = []
    · rw [h0, show decDigits (val []) = [48] from dec_small (a := 0) (by omega)]; simp
    · have := dec_len_val (natIs_small hnat) h0
      omega
  generalize decDigits (val ym) = D at *
  have hsa1 : ∀ σ, vbin .add (.str [40, 45, 32]) (.str D) σ = .ok (.str (40 :: 45 :: 32 :: D)) σ := fun σ => vbin_sadd σ _ _ (by simp; omega)
  have hsa2 : ∀ σ, vbin .add (.str (40 :: 45 :: 32 :: D)) (.str [41]) σ = .ok (.str (40 :: 45 :: 32 :: D ++ [41])) σ := fun σ => vbin_sadd σ _ _ (by simp; omega)
  refine fn_of code_ref1_Print (by simp) ?_
  cases yn
  · simp only [go_sem, ↓reduceIte, Nat.reduceMod, Nat.reduceEqDiff, Nat.reduceAdd, Nat.reduceMul, Nat.reduceSub, Nat.reduceLeDiff, Nat.reduceLT, Int.reduceEq, Int.reduceLT, Int.reduceLE, Int.reduceAdd, Int.reduceSub, Int.reduceNeg, reduceCtorEq, Nat.reduceShiftRight, Nat.reduceAnd, Nat.reduceBNe, hr, hcall, hz2.one, hN]
    exact settled_ov (ext_Sx hr (by simp)) (ov_str _ _)
  · simp only [go_sem, ↓reduceIte, Nat.reduceMod, Nat.reduceEqDiff, Nat.reduceAdd, Nat.reduceMul, Nat.reduceSub, Nat.reduceLeDiff, Nat.reduceLT, Int.reduceEq, Int.reduceLT, Int.reduceLE, Int.reduceAdd, Int.reduceSub, Int.reduceNeg, reduceCtorEq, Nat.reduceShiftRight, Nat.reduceAnd, Nat.reduceBNe, hr, hcall, hz2.one, hN, hsa1, hsa2]
    exact settled_ov (ext_Sx hr (by simp)) (ov_str _ _)
end Go.Proofs.YtkdkojnlimadnaaDoor
namespace Go.Proofs.YtkdkojnlimadnaaDoor
open Go Go.Vm Go.Lib
set_option linter.unusedVariables false
set_option linter.unusedSimpArgs false
theorem parse_len {l : List UInt8} (hl : l.length ≤ 5000) : (parseZ l).1.mag.length ≤ 600 := by
  have key : ∀ (b : Bool) (d : List UInt8), d.length ≤ 5000 → (parseR b d).1.mag.length ≤ 600 := by
    intro b d hd
    unfold parseR
    split
    · simp
    · split
      · simp
      · have := chunk_len _ d (Nat.le_refl _)
        rename_i h1 h2
        rcases num_limbs (l := d) (by simp at h1; exact h1.1) with ⟨_, h⟩ | ⟨_, h⟩ <;> rw [h]
        · simp
        · show (chunk d).length ≤ 600; omega
  unfold parseZ
  split
  · split
    · exact key _ _ (by rw [List.length_take, List.length_drop]; omega)
    · simp
  · exact key _ _ hl
theorem tell_ok (s : St) (n m : AV) (z : Z) (l : List UInt8) (hr : Room s) (hn : s.n.val ≤ 10000) (hz : RZ s n m z) : CA F.law3_DigitsTell [.agg [n, m], .str l] s = .ok (.bool true) s := by
  have hL1 : ∀ L : List AO, L.length ≤ 100 → Room (Sx s L) ∧ (Sx s L).n.val ≤ 10100 ∧ Ext s (Sx s L) := fun L hL => ⟨hr.Sx (by omega) (by omega), by rw [Sx_n hr (by omega)]; omega, ext_Sx hr (by omega)⟩
  have hk := fun L hL => known_ok (Sx s L) (hL1 L hL).1 (by have := (hL1 L hL).2.1; omega)
  refine fn_of code_law3_DigitsTell (by simp) ?_
  by_cases c1 : (10 : Int) < (z.mag.length : Int)
  · simp only [go_sem, ↓reduceIte, Nat.reduceMod, Nat.reduceEqDiff, Nat.reduceAdd, Nat.reduceMul, Nat.reduceSub, Nat.reduceLeDiff, Nat.reduceLT, Int.reduceEq, Int.reduceLT, Int.reduceLE, Int.reduceAdd, Int.reduceSub, Int.reduceNeg, reduceCtorEq, Nat.reduceShiftRight, Nat.reduceAnd, Nat.reduceBNe, Bool.not_true, Bool.not_false, hk, hr, hz.mag.vlen, c1]
    exact settled_bool (ext_Sx hr (by simp)) rfl
  by_cases c2 : (400 : Int) < (l.length : Int)
  · simp only [go_sem, ↓reduceIte, Nat.reduceMod, Nat.reduceEqDiff, Nat.reduceAdd, Nat.reduceMul, Nat.reduceSub, Nat.reduceLeDiff, Nat.reduceLT, Int.reduceEq, Int.reduceLT, Int.reduceLE, Int.reduceAdd, Int.reduceSub, Int.reduceNeg, reduceCtorEq, Nat.reduceShiftRight, Nat.reduceAnd, Nat.reduceBNe, Bool.not_true, Bool.not_false, hk, hr, hz.mag.vlen, c1, c2]
    exact settled_bool (ext_Sx hr (by simp)) rfl
  have p1 := fun L hL => parse_ok (Sx s L) l (hL1 L hL).1 (by have := (hL1 L hL).2.1; omega) (by omega)
  have hpl := parse_len (l := l) (by omega)
  obtain ⟨r, p2, hrn⟩ := ref_parse_ok (Sx s [.cells [n, m], .cells [.bool (parseZ l).1.neg, avN (parseZ l).1.mag]]) l (hL1 _ (by simp)).1 (by have := (hL1 [.cells [n, m], .cells [.bool (parseZ l).1.neg, avN (parseZ l).1.mag]] (by simp)).2.1; omega) (by omega)
  have t1 := fun L hL => print_call (Sx s L) n m z (by omega) (hz.x (hL1 L hL).2.2)
  have t2 := fun L hL => ref_print_ok (Sx s L) n m z (hL1 L hL).1 (by have := (hL1 L hL).2.1; omega) (by omega) (hz.x (hL1 L hL).2.2)
  have t3 := fun L hL => nat_call (Sx s L) m z.mag (by omega) (hz.mag.x (hL1 L hL).2.2)
  have t4 := fun L hL => ref_nat_ok (Sx s L) m z.mag (hL1 L hL).1 (by have := (hL1 L hL).2.1; omega) (by omega) (hz.mag.x (hL1 L hL).2.2)
  have t5 := fun L hL => numeral_ok (Sx s L) l (hL1 L hL).1 (by omega)
  have t6 := fun L (hL : L.length ≤ 100) => ref_numeral_ok (Sx s L) l (by omega)
  have t7 := fun L hL => equal_ok (Sx s L) (.bool (parseZ l).1.neg) (avN (parseZ l).1.mag) (.bool (parseZ l).1.neg) r (parseZ l).1 (parseZ l).1 (hL1 L hL).1 (by have := (hL1 L hL).2.1; omega) ⟨rfl, avN_nats _ _ (by omega)⟩ ⟨rfl, hrn _⟩
  simp only [decide_true] at t7
  have o1 : (avN (parseZ l).1.mag).one = true := avN_one _
  have o2 : r.one = true := (hrn s).one
  have o3 : n.one = true := by rw [hz.neg]; rfl
  generalize avN (parseZ l).1.mag = A at *
  generalize (parseZ l).1.neg = B at *
  generalize (parseZ l).2 = C at *
  simp only [go_sem, ↓reduceIte, Nat.reduceMod, Nat.reduceEqDiff, Nat.reduceAdd, Nat.reduceMul, Nat.reduceSub, Nat.reduceLeDiff, Nat.reduceLT, Int.reduceEq, Int.reduceLT, Int.reduceLE, Int.reduceAdd, Int.reduceSub, Int.reduceNeg, reduceCtorEq, Nat.reduceShiftRight, Nat.reduceAnd, Nat.reduceBNe, Bool.not_true, Bool.not_false, hk, hr, hz.mag.vlen, c1, c2, p1, p2, o1, o2]
  refine W_drawn hr _ (by simp) ?_
  cases hb : isNum l
  · rw [hb] at t5 t6
    simp only [go_sem, ↓reduceIte, Nat.reduceMod, Nat.reduceEqDiff, Nat.reduceAdd, Nat.reduceMul, Nat.reduceSub, Nat.reduceLeDiff, Nat.reduceLT, Int.reduceEq, Int.reduceLT, Int.reduceLE, Int.reduceAdd, Int.reduceSub, Int.reduceNeg, reduceCtorEq, Nat.reduceShiftRight, Nat.reduceAnd, Nat.reduceBNe, Bool.not_true, Bool.not_false, decide_true, hr, t1, t2, t3, t4, t5, t6, t7, o1, o2, hz.mag.one]
    exact settled_bool (ext_Sx hr (by simp)) rfl
  · rw [hb] at t5 t6
    simp only [go_sem, ↓reduceIte, Nat.reduceMod, Nat.reduceEqDiff, Nat.reduceAdd, Nat.reduceMul, Nat.reduceSub, Nat.reduceLeDiff, Nat.reduceLT, Int.reduceEq, Int.reduceLT, Int.reduceLE, Int.reduceAdd, Int.reduceSub, Int.reduceNeg, reduceCtorEq, Nat.reduceShiftRight, Nat.reduceAnd, Nat.reduceBNe, Bool.not_true, Bool.not_false, decide_true, hr, t1, t2, t3, t4, t5, t6, t7, o1, o2, hz.mag.one]
    exact settled_bool (ext_Sx hr (by simp)) rfl
end Go.Proofs.YtkdkojnlimadnaaDoor
