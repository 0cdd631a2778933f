/- Functions of the program: terms made, compared. No condition. -/
import Derived.Test.YtjnejkganejdbaaLibE
namespace Go.Vm
mutual
/-- No number in it is too long. -/
def T.tame : T → Prop
  | .mk _ n name _ ks => n.mag.length ≤ 1000 ∧ name.length ≤ 1000 ∧ T.tames ks
def T.tames : List T → Prop
  | [] => True
  | t :: l => T.tame t ∧ T.tames l
end
theorem T.tame_at {l : List T} (h : T.tames l) {i : Nat} (hi : i < l.length) : l[i].tame := by
  induction l generalizing i with
  | nil => simp at hi
  | cons a l ih => cases i with
    | zero => exact h.1
    | succ i => exact ih h.2 (by simpa using hi)
theorem T.tame_kids {t : T} (h : t.tame) : t.n.mag.length ≤ 1000 ∧ T.tames t.kids := by cases t; exact ⟨h.1, h.2.2⟩
theorem T.tame_name {t : T} (h : t.tame) : t.name.length ≤ 1000 := by cases t; exact h.2.1
end Go.Vm
namespace Go.Proofs.Ytjnejkganejdbaa
open Go Go.Vm
set_option linter.unusedVariables false
set_option linter.unusedSimpArgs false
theorem numB_of {t : T} (h : t.tame) : NumB t := fun hi => by
  have h1 := T.tame_at (T.tame_kids h).2 hi
  have h2 := (T.tame_kids h1).1
  omega
mutual
/-- A term's nodes may all be. -/
def isN : T → Bool
  | .mk op n name sort ks => isNs ks && nodeOk (.mk op n name sort ks)
def isNs : List T → Bool
  | [] => true
  | t :: l => isN t && isNs l
end
theorem isN_eq (t : T) : isN t = (isNs t.kids && nodeOk t) := by cases t; rfl
theorem isNs_all (l : List T) : isNs l = l.all isN := by
  induction l with
  | nil => rfl
  | cons a l ih => simp [isNs, ih]
theorem nodes_ok : ∀ (n : Nat) (l : List T), T.sizes l ≤ n → T.sizes l ≤ 400 → T.tames l → ∀ (s : St) (v : AV), Room s → s.n.val + T.sizes l ≤ 40000 → Ts s v l → CA F.term_nodes [v] s = .ok (.bool (isNs l)) s := by
  intro n
  induction n with
  | zero =>
    intro l hl _ _ s v hr hn hv
    have hlen := T.length_le l
    have e : l = [] := List.eq_nil_of_length_eq_zero (by omega)
    subst e
    refine fn_of code_term_nodes (by simp) ?_
    simp only [go_sem, ↓reduceIte, Nat.reduceMod, Nat.reduceEqDiff, Nat.reduceAdd, Nat.reduceMul, Nat.reduceSub, Nat.reduceLeDiff, Nat.reduceLT, Int.reduceEq, Int.reduceLT, Int.reduceLE, Int.reduceAdd, Int.reduceSub, Int.reduceNeg, reduceCtorEq, Nat.reduceShiftRight, Nat.reduceAnd, Nat.reduceBNe, hv.vlen, List.length_nil]
    rw [W_loop]
    simp only [go_sem, ↓reduceIte, Nat.reduceMod, Nat.reduceEqDiff, Nat.reduceAdd, Nat.reduceMul, Nat.reduceSub, Nat.reduceLeDiff, Nat.reduceLT, Int.reduceEq, Int.reduceLT, Int.reduceLE, Int.reduceAdd, Int.reduceSub, Int.reduceNeg, reduceCtorEq, Nat.reduceShiftRight, Nat.reduceAnd, Nat.reduceBNe, Int.lt_irrefl]
    exact settled_bool (Ext.refl s) rfl
  | succ n ihn =>
    intro l hl h4 ht s v hr hn hv
    have hm := hv.most
    have hle := T.length_le l
    rw [isNs_all]
    refine fn_of code_term_nodes (by simp) ?_
    simp only [go_sem, ↓reduceIte, Nat.reduceMod, Nat.reduceEqDiff, Nat.reduceAdd, Nat.reduceMul, Nat.reduceSub, Nat.reduceLeDiff, Nat.reduceLT, Int.reduceEq, Int.reduceLT, Int.reduceLE, Int.reduceAdd, Int.reduceSub, Int.reduceNeg, reduceCtorEq, Nat.reduceShiftRight, Nat.reduceAnd, Nat.reduceBNe, hv.vlen]
    refine W_inv (fun k f τ => ∃ (i : Nat) (σ : St), Sx σ [] = τ ∧ Room σ ∧ Ext s σ ∧ σ.n.val ≤ s.n.val + i ∧ k = l.length - i ∧ i ≤ l.length ∧ i ≤ T.sizes (l.take i) ∧ (l.take i).all isN = true ∧ (vv 5).get f = v ∧ (vv 6).get f = .int .i64 (l.length : Int) ∧ (vv 7).get f = .int .i64 (i : Int)) ?_ ⟨0, s, rfl, hr, Ext.refl s, by omega, rfl, by omega, by omega, by simp, ?_⟩
    · rintro k f τ ⟨i, σ, rfl, hr1, hx, hn1, rfl, hi, his, ha, g5, g6, g7⟩
      have hv1 := hv.x hx
      by_cases c1 : i < l.length
      · obtain ⟨cs, hat⟩ := hv1.at c1
        have hs := T.sizes_take l i c1
        have hs2 := T.size_at c1
        have hs3 := T.size_kids l[i]
        have hsl := T.sizes_le l (i + 1)
        have hkl := T.length_le l[i].kids
        have htm := T.tame_at ht c1
        have h6 := hat.t6
        have hlen6 := hat.len
        obtain ⟨ng, mg, kv, rfl, hz, hkv⟩ := hat.t6.ex
        obtain ⟨L, hL⟩ : ∃ L : List AO, L = [.cells [.int .i64 l[i].op, ng, mg, .str l[i].name, .int .i64 l[i].sort, kv]] := ⟨_, rfl⟩
        have hlen : L.length = 1 := by rw [hL]; rfl
        have hx2 := ext_Sx (s := σ) (l := L) hr1 (by omega)
        have hr2 := hr1.Sx (l := L) (by omega) (by omega)
        have hn2 := Sx_n (s := σ) (l := L) hr1 (by omega)
        have f1 := ihn l[i].kids (by omega) (by omega) (T.tame_kids htm).2 (Sx σ L) kv hr2 (by omega) (hkv.x hx2)
        have f2 := node_ok (Sx σ L) _ l[i] hr2 (by omega) (by omega) (fun j hj => numB_of (T.tame_at (T.tame_kids htm).2 hj)) (h6.x hx2)
        rw [hL] at f1 f2 hx2
        cases d1 : isNs l[i].kids
        · simp only [go_sem, ↓reduceIte, Nat.reduceMod, Nat.reduceEqDiff, Nat.reduceAdd, Nat.reduceMul, Nat.reduceSub, Nat.reduceLeDiff, Nat.reduceLT, Int.reduceEq, Int.reduceLT, Int.reduceLE, Int.reduceAdd, Int.reduceSub, Int.reduceNeg, reduceCtorEq, Nat.reduceShiftRight, Nat.reduceAnd, Nat.reduceBNe, g5, g6, g7, Int.ofNat_lt, c1, hr1, hv1.ia c1, hat.ld, f1, d1, Bool.not_false]
          exact settled_bool (hx.trans (ext_Sx hr1 (by simp))) (by rw [allT_false c1 (by rw [isN_eq, d1]; rfl)])
        · cases d2 : nodeOk l[i]
          · simp only [go_sem, ↓reduceIte, Nat.reduceMod, Nat.reduceEqDiff, Nat.reduceAdd, Nat.reduceMul, Nat.reduceSub, Nat.reduceLeDiff, Nat.reduceLT, Int.reduceEq, Int.reduceLT, Int.reduceLE, Int.reduceAdd, Int.reduceSub, Int.reduceNeg, reduceCtorEq, Nat.reduceShiftRight, Nat.reduceAnd, Nat.reduceBNe, g5, g6, g7, Int.ofNat_lt, c1, hr1, hv1.ia c1, hat.ld, f1, d1, Bool.not_true, Bool.not_false, f2, d2]
            exact settled_bool (hx.trans (ext_Sx hr1 (by simp))) (by rw [allT_false c1 (by rw [isN_eq, d1, d2]; rfl)])
          · simp only [go_sem, ↓reduceIte, Nat.reduceMod, Nat.reduceEqDiff, Nat.reduceAdd, Nat.reduceMul, Nat.reduceSub, Nat.reduceLeDiff, Nat.reduceLT, Int.reduceEq, Int.reduceLT, Int.reduceLE, Int.reduceAdd, Int.reduceSub, Int.reduceNeg, reduceCtorEq, Nat.reduceShiftRight, Nat.reduceAnd, Nat.reduceBNe, g5, g6, g7, Int.ofNat_lt, c1, hr1, hv1.ia c1, hat.ld, f1, d1, Bool.not_true, f2, d2]
            refine ⟨l.length - (i + 1), by omega, i + 1, _, Sx_nil _, hr1.Sx (by simp; omega) (by simp), hx.trans (ext_Sx hr1 (by simp)), ?_, rfl, by omega, by omega, ?_, ?_⟩
            · rw [Sx_n hr1 (by simp)]; simp; omega
            · rw [allT_take c1, ha, isN_eq, d1, d2]; rfl
            · rw [wrap_i64 (by omega) (by omega)]; congr 1
      · have e : i = l.length := by omega
        subst e
        rw [List.take_length] at ha
        simp only [go_sem, ↓reduceIte, Nat.reduceMod, Nat.reduceEqDiff, Nat.reduceAdd, Nat.reduceMul, Nat.reduceSub, Nat.reduceLeDiff, Nat.reduceLT, Int.reduceEq, Int.reduceLT, Int.reduceLE, Int.reduceAdd, Int.reduceSub, Int.reduceNeg, reduceCtorEq, Nat.reduceShiftRight, Nat.reduceAnd, Nat.reduceBNe, g5, g6, g7, Int.ofNat_lt, c1]
        exact settled_bool hx ha.symm
    · simp only [go_sem, ↓reduceIte, Nat.reduceMod, Nat.reduceEqDiff, Nat.reduceAdd, Nat.reduceMul, Nat.reduceSub, Nat.reduceLeDiff, Nat.reduceLT, Int.reduceEq, Int.reduceLT, Int.reduceLE, Int.reduceAdd, Int.reduceSub, Int.reduceNeg, reduceCtorEq, Nat.reduceShiftRight, Nat.reduceAnd, Nat.reduceBNe]
      rfl
/-- Is it a term? -/
def isT (t : T) : Bool := decide (t.size ≤ 400) && isN t
theorem all_ok (s : St) (v : AV) (l : List T) (ht : T.tames l) (hr : Room s) (hn : s.n.val + 2 * l.length ≤ 39000) (hv : Ts s v l) : CA F.term_all [v] s = .ok (.bool (l.all isT)) s := by
  have hm := hv.most
  refine fn_of code_term_all (by simp) ?_
  simp only [go_sem, ↓reduceIte, Nat.reduceMod, Nat.reduceEqDiff, Nat.reduceAdd, Nat.reduceMul, Nat.reduceSub, Nat.reduceLeDiff, Nat.reduceLT, Int.reduceEq, Int.reduceLT, Int.reduceLE, Int.reduceAdd, Int.reduceSub, Int.reduceNeg, reduceCtorEq, Nat.reduceShiftRight, Nat.reduceAnd, Nat.reduceBNe, hv.vlen]
  refine W_inv (fun k f τ => ∃ (i : Nat) (σ : St), Sx σ [] = τ ∧ Room σ ∧ Ext s σ ∧ σ.n.val ≤ s.n.val + 2 * i ∧ k = l.length - i ∧ i ≤ l.length ∧ (l.take i).all isT = true ∧ (vv 5).get f = v ∧ (vv 6).get f = .int .i64 (l.length : Int) ∧ (vv 7).get f = .int .i64 (i : Int)) ?_ ⟨0, s, rfl, hr, Ext.refl s, by omega, rfl, by omega, by simp, ?_⟩
  · rintro k f τ ⟨i, σ, rfl, hr1, hx, hn1, rfl, hi, ha, g5, g6, g7⟩
    have hv1 := hv.x hx
    by_cases c1 : i < l.length
    · obtain ⟨cs, hat⟩ := hv1.at c1
      have htm := T.tame_at ht c1
      have h6 := hat.t6
      have hlen6 := hat.len
      obtain ⟨ng, mg, kv, rfl, hz, hkv⟩ := hat.t6.ex
      obtain ⟨L, hL⟩ : ∃ L : List AO, L = [.cells [.int .i64 l[i].op, ng, mg, .str l[i].name, .int .i64 l[i].sort, kv]] := ⟨_, rfl⟩
      have hlen : L.length = 1 := by rw [hL]; rfl
      have hx2 := ext_Sx (s := σ) (l := L) hr1 (by omega)
      have hr2 := hr1.Sx (l := L) (by omega) (by omega)
      have hn2 := Sx_n (s := σ) (l := L) hr1 (by omega)
      obtain ⟨M, hM⟩ : ∃ M : List AO, M = [.cells [.int .i64 l[i].op, ng, mg, .str l[i].name, .int .i64 l[i].sort, kv], .cells [.int .i64 l[i].op, ng, mg, .str l[i].name, .int .i64 l[i].sort, kv]] := ⟨_, rfl⟩
      have hlenM : M.length = 2 := by rw [hM]; rfl
      have hr3 := hr1.Sx (l := M) (by omega) (by omega)
      have hn3 := Sx_n (s := σ) (l := M) hr1 (by omega)
      have f1 := Count_ok (Sx σ L) _ l[i] hr2 (by omega) (h6.x hx2)
      have o1 := one_sl (L := M) (i := 1) hr1 (by omega) (by rw [hM]; rfl) h6
      rw [hL] at f1 hx2
      by_cases c2 : (400 : Int) < min 401 (l[i].size : Int)
      · simp only [go_sem, ↓reduceIte, Nat.reduceMod, Nat.reduceEqDiff, Nat.reduceAdd, Nat.reduceMul, Nat.reduceSub, Nat.reduceLeDiff, Nat.reduceLT, Int.reduceEq, Int.reduceLT, Int.reduceLE, Int.reduceAdd, Int.reduceSub, Int.reduceNeg, reduceCtorEq, Nat.reduceShiftRight, Nat.reduceAnd, Nat.reduceBNe, g5, g6, g7, Int.ofNat_lt, c1, hr1, hv1.ia c1, hat.ld, hlen6, f1, c2]
        exact settled_bool (hx.trans (ext_Sx hr1 (by simp))) (by rw [allT_false c1 (by rw [isT, decide_eq_false (by omega)]; rfl)])
      · have h4 : l[i].size ≤ 400 := by omega
        have f2 := nodes_ok _ [l[i]] (Nat.le_refl _) (by simp [T.sizes]; omega) ⟨htm, trivial⟩ (Sx σ M) _ hr3 (by simp [T.sizes]; omega) o1
        rw [hM] at f2
        cases d : isN l[i]
        · have d' : isNs [l[i]] = false := by simp [isNs, d]
          simp only [go_sem, ↓reduceIte, Nat.reduceMod, Nat.reduceEqDiff, Nat.reduceAdd, Nat.reduceMul, Nat.reduceSub, Nat.reduceLeDiff, Nat.reduceLT, Int.reduceEq, Int.reduceLT, Int.reduceLE, Int.reduceAdd, Int.reduceSub, Int.reduceNeg, reduceCtorEq, Nat.reduceShiftRight, Nat.reduceAnd, Nat.reduceBNe, g5, g6, g7, Int.ofNat_lt, c1, hr1, hv1.ia c1, hat.ld, hlen6, f1, c2, f2, d', Bool.not_false]
          exact settled_bool (hx.trans (ext_Sx hr1 (by simp))) (by rw [allT_false c1 (by rw [isT, d]; simp)])
        · have d' : isNs [l[i]] = true := by simp [isNs, d]
          simp only [go_sem, ↓reduceIte, Nat.reduceMod, Nat.reduceEqDiff, Nat.reduceAdd, Nat.reduceMul, Nat.reduceSub, Nat.reduceLeDiff, Nat.reduceLT, Int.reduceEq, Int.reduceLT, Int.reduceLE, Int.reduceAdd, Int.reduceSub, Int.reduceNeg, reduceCtorEq, Nat.reduceShiftRight, Nat.reduceAnd, Nat.reduceBNe, g5, g6, g7, Int.ofNat_lt, c1, hr1, hv1.ia c1, hat.ld, hlen6, f1, c2, f2, d', Bool.not_true]
          refine ⟨l.length - (i + 1), by omega, i + 1, _, Sx_nil _, hr1.Sx (by simp; omega) (by simp), hx.trans (ext_Sx hr1 (by simp)), ?_, rfl, by omega, ?_, ?_⟩
          · rw [Sx_n hr1 (by simp)]; simp; omega
          · rw [allT_take c1, ha, isT, d, decide_eq_true h4]; rfl
          · rw [wrap_i64 (by omega) (by omega)]; congr 1
    · have e : i = l.length := by omega
      subst e
      rw [List.take_length] at ha
      simp only [go_sem, ↓reduceIte, Nat.reduceMod, Nat.reduceEqDiff, Nat.reduceAdd, Nat.reduceMul, Nat.reduceSub, Nat.reduceLeDiff, Nat.reduceLT, Int.reduceEq, Int.reduceLT, Int.reduceLE, Int.reduceAdd, Int.reduceSub, Int.reduceNeg, reduceCtorEq, Nat.reduceShiftRight, Nat.reduceAnd, Nat.reduceBNe, g5, g6, g7, Int.ofNat_lt, c1]
      exact settled_bool hx ha.symm
  · simp only [go_sem, ↓reduceIte, Nat.reduceMod, Nat.reduceEqDiff, Nat.reduceAdd, Nat.reduceMul, Nat.reduceSub, Nat.reduceLeDiff, Nat.reduceLT, Int.reduceEq, Int.reduceLT, Int.reduceLE, Int.reduceAdd, Int.reduceSub, Int.reduceNeg, reduceCtorEq, Nat.reduceShiftRight, Nat.reduceAnd, Nat.reduceBNe]
    rfl
/-! ### By the document -/
/-- The same, by the document: of a node. -/
def nodeOkR (t : T) : Bool :=
  if t.op = 1 then zIs t.n && (decide (t.name = []) && (decide (t.sort = 2) && decide (t.kids = [])))
  else if t.op = 2 ∨ t.op = 3 then plainB t && (decide (t.sort = 1) && decide (t.kids = []))
  else if t.op = 4 then (!t.n.neg && decide (t.n.mag = [])) && (symOk t.name && (decide (t.kids.length ≤ 3) && sortB t.sort))
  else madeB t.op && (plainB t && (kidsOk t.op t.kids.length && (decide (checkE t.op t.kids = 0) && decide (t.sort = resSort t.op t.kids))))
mutual
def isR : T → Bool
  | .mk op n name sort ks => isRs ks && nodeOkR (.mk op n name sort ks)
def isRs : List T → Bool
  | [] => true
  | t :: l => isR t && isRs l
end
theorem isR_eq (t : T) : isR t = (isRs t.kids && nodeOkR t) := by cases t; rfl
theorem isRs_all (l : List T) : isRs l = l.all isR := by
  induction l with
  | nil => rfl
  | cons a l ih => simp [isRs, ih]
theorem zero_is (z : Z) : (zIs z && decide (zsign z = 0)) = (!z.neg && decide (z.mag = [])) := by
  obtain ⟨n, m⟩ := z
  cases m with
  | nil => cases n <;> simp [zIs, zsign, zh, natIs_nil]
  | cons a m =>
    cases h : zIs ⟨n, a :: m⟩
    · simp
    · have e : zsign ⟨n, a :: m⟩ ≠ 0 := by unfold zsign zh; rw [if_pos h]; cases n <;> simp
      simp [e]
end Go.Proofs.Ytjnejkganejdbaa
namespace Go.Proofs.Ytjnejkganejdbaa
open Go Go.Vm
set_option linter.unusedVariables false
set_option linter.unusedSimpArgs false
theorem isRs_false {l : List T} {i : Nat} (h : i < l.length) (hp : isR l[i] = false) : isRs l = false := by rw [isRs_all]; exact allT_false h hp
/-! ### Both ways say the same -/
theorem resSort_B {op : Int} {l : List T} (h : ∀ t ∈ l, sortB t.sort = true) (h12 : op = 12 → 1 < l.length) : sortB (resSort op l) = true := by
  unfold resSort
  split
  · rfl
  · split
    · rename_i e
      have h1 := h12 e
      rw [List.getElem?_eq_getElem h1]
      exact h _ (List.getElem_mem h1)
    · rfl
theorem isN_sort : ∀ (n : Nat) (t : T), t.size ≤ n → isN t = true → sortB t.sort = true := by
  intro n
  induction n with
  | zero => intro t h; have := T.size_kids t; omega
  | succ n ih =>
    intro t hl h
    rw [isN_eq, isNs_all, Bool.and_eq_true, List.all_eq_true] at h
    have hs := T.size_kids t
    have hk : ∀ u ∈ t.kids, sortB u.sort = true := by
      intro u hu
      obtain ⟨i, hi, rfl⟩ := List.getElem_of_mem hu
      have := T.size_at hi
      exact ih _ (by omega) (h.1 _ hu)
    have h2 := h.2
    unfold nodeOk at h2
    split at h2
    · simp only [Bool.and_eq_true, decide_eq_true_eq] at h2; rw [h2.2.2.1]; rfl
    · split at h2
      · simp only [Bool.and_eq_true, decide_eq_true_eq] at h2; rw [h2.2.1]; rfl
      · split at h2
        · simp only [Bool.and_eq_true, sigOk] at h2; exact h2.2.2.2.2.2
        · simp only [Bool.and_eq_true, decide_eq_true_eq] at h2
          rw [h2.2.2.2.2]
          exact resSort_B hk fun e => by have := kids12 (l := t.kids) (by rw [← e]; exact h2.2.2.1); omega
theorem nodeOkR_eq {t : T} (h4 : t.size ≤ 400) (hk : isNs t.kids = true) : nodeOkR t = nodeOk t := by
  have hs := T.size_kids t
  rw [isNs_all, List.all_eq_true] at hk
  unfold nodeOkR nodeOk
  split
  · rfl
  · split
    · rfl
    · split
      · have ha : (t.kids.map T.sort).all sortB = true := by
          rw [List.all_eq_true]
          intro x hx
          obtain ⟨u, hu, rfl⟩ := List.mem_map.mp hx
          exact isN_sort _ u (Nat.le_refl _) (hk u hu)
        simp only [sigOk, ha, List.length_map, Bool.true_and, Bool.and_assoc]
      · have e : checkE t.op t.kids = wrongE t.op t.kids := by
          unfold checkE
          rw [if_neg (by omega : ¬ 400 < min (1 + T.sizes t.kids) 401)]
          split <;> simp_all
        rw [e]
theorem isR_isN : ∀ (n : Nat) (t : T), t.size ≤ n → t.size ≤ 400 → isR t = isN t := by
  intro n
  induction n with
  | zero => intro t h; have := T.size_kids t; omega
  | succ n ih =>
    intro t hl h4
    have hs := T.size_kids t
    have e : isRs t.kids = isNs t.kids := by
      rw [isRs_all, isNs_all, Bool.eq_iff_iff, List.all_eq_true, List.all_eq_true]
      constructor
      · intro h u hu
        obtain ⟨i, hi, rfl⟩ := List.getElem_of_mem hu
        have := T.size_at hi
        rw [← ih _ (by omega) (by omega)]; exact h _ hu
      · intro h u hu
        obtain ⟨i, hi, rfl⟩ := List.getElem_of_mem hu
        have := T.size_at hi
        rw [ih _ (by omega) (by omega)]; exact h _ hu
    rw [isR_eq, isN_eq, e]
    cases h : isNs t.kids
    · rfl
    · rw [nodeOkR_eq h4 h]
end Go.Proofs.Ytjnejkganejdbaa
namespace Go.Proofs.Ytjnejkganejdbaa
open Go Go.Vm
set_option linter.unusedVariables false
set_option linter.unusedSimpArgs false
theorem rt6_ov {s : St} {cs : List AV} {t : T} (h : RT6 s cs t) : ∀ c ∈ cs, Ov s.n.val c := by
  obtain ⟨ng, mg, kv, rfl, hz, hk⟩ := h.ex
  intro c hc
  simp only [List.mem_cons, List.not_mem_nil, or_false] at hc
  rcases hc with rfl | rfl | rfl | rfl | rfl | rfl
  · exact ov_int _ _ _
  · exact hz.ov.1
  · exact hz.ov.2
  · exact ov_str _ _
  · exact ov_int _ _ _
  · exact hk.sl.ov
theorem ts_row6 {s : St} {v : AV} {l : List T} (h : Ts s v l) {j : Nat} (hj : j < l.length * 6) : ∃ c, (rowOf s v)[j]? = some c ∧ Ov s.n.val c := by
  have hi : j / 6 < l.length := by omega
  obtain ⟨cs, rest, h1, h2, h3⟩ := (h.el (j / 6) hi).t6
  have h4 : j % 6 < cs.length := by omega
  refine ⟨cs[j % 6], ?_, rt6_ov h3 _ (List.getElem_mem h4)⟩
  have := congrArg (fun l => l[j % 6]?) h1
  simp only [List.getElem?_drop] at this
  rw [show j / 6 * 6 + j % 6 = j by omega, List.getElem?_append_left h4, List.getElem?_eq_getElem h4] at this
  exact this
theorem ts_row_len {s : St} {v : AV} {l : List T} (h : Ts s v l) : l.length * 6 ≤ (rowOf s v).length := by
  rcases Nat.eq_zero_or_pos l.length with h0 | h0
  · omega
  · obtain ⟨c, hc, _⟩ := ts_row6 h (j := l.length * 6 - 1) (by omega)
    have := (List.getElem?_eq_some_iff.mp hc).1
    omega
theorem ts_row_ov {s : St} {v : AV} {l : List T} (h : Ts s v l) : ∀ c ∈ (rowOf s v).take (l.length * 6), Ov s.n.val c := by
  intro c hc
  obtain ⟨j, hj, rfl⟩ := List.getElem_of_mem hc
  rw [List.length_take] at hj
  obtain ⟨c, h1, h2⟩ := ts_row6 h (j := j) (by omega)
  rw [List.getElem?_eq_getElem (by omega)] at h1
  rw [List.getElem_take]
  cases h1
  exact h2
theorem ts_rows {s : St} {v : AV} {l : List T} (h : Ts s v l) (cap : Nat) (ex : Bool) : Ts s (.ts ((rowOf s v).take (l.length * 6)) l.length cap ex) l := by
  refine ⟨.ts _ _ _ _ h.most (ts_row_ov h), rfl, fun i hi => ?_⟩
  obtain ⟨cs, rest, h1, h2, h3⟩ := (h.el i hi).t6
  show RT s (((rowOf s v).take (l.length * 6)).drop (i * 6)) l[i]
  rw [List.drop_take, h1, List.take_append, List.take_of_length_le (by omega)]
  exact h3.rt _
theorem ts_nil (s : St) : Ts s .nils [] := ⟨.nils, rfl, fun i h => by simp at h⟩
theorem clone_ts_ok (s : St) (v : AV) (l : List T) (hl : l.length ≤ 1000000) (hv : Ts s v l) : ∃ r, Ts s r l ∧ (∀ s', Ts s' v l → rowOf s' v = rowOf s v → Ts s' r l) ∧ ∀ σ, Ext s σ → Room σ → CA F.slices_Clone_api_Term_api_Term [v] σ = .ok r σ := by
  by_cases hn : v = .nils
  · subst hn
    refine ⟨.nils, hv, fun s' h _ => h, fun σ hxs hr => ?_⟩
    refine fn_of code_slices_Clone_api_Term_api_Term (by simp) ?_
    simp only [go_sem, ↓reduceIte, Nat.reduceMod, Nat.reduceEqDiff, Nat.reduceAdd, Nat.reduceMul, Nat.reduceSub, Nat.reduceLeDiff, Nat.reduceLT, Int.reduceEq, Int.reduceLT, Int.reduceLE, Int.reduceAdd, Int.reduceSub, Int.reduceNeg, reduceCtorEq, Nat.reduceShiftRight, Nat.reduceAnd, Nat.reduceBNe]
    exact settled_ov (Ext.refl σ) (ov_nils _)
  · by_cases h0 : lenOf v = 0
    · have hl0 : l = [] := List.eq_nil_of_length_eq_zero (by rw [← hv.len]; exact h0)
      subst hl0
      refine ⟨.ts [] 0 0 false, ⟨.ts _ _ _ _ (by simp) (by simp), rfl, fun i h => by simp at h⟩, fun s' _ _ => ⟨.ts _ _ _ _ (by simp) (by simp), rfl, fun i h => by simp at h⟩, fun σ hxs hr => ?_⟩
      have hv := hv.x hxs
      refine fn_of code_slices_Clone_api_Term_api_Term (by simp) ?_
      have hx := ext_Sx (s := σ) (l := [.cells []]) hr (by simp)
      simp only [go_sem, ↓reduceIte, Nat.reduceMod, Nat.reduceEqDiff, Nat.reduceAdd, Nat.reduceMul, Nat.reduceSub, Nat.reduceLeDiff, Nat.reduceLT, Int.reduceEq, Int.reduceLT, Int.reduceLE, Int.reduceAdd, Int.reduceSub, Int.reduceNeg, reduceCtorEq, Nat.reduceShiftRight, Nat.reduceAnd, Nat.reduceBNe, hr, vnileq_sl hv.sl hn, vapp_lit0 (i := 0) (L := [.cells []]) hr (by simp) rfl (hv.sl.ext hx) (by rw [rowOf_ext hx hv.sl, h0]; simp) h0]
      exact settled_fz hx (fz_own hr (by simp) rfl (by simp))
    · refine ⟨.ts ((rowOf s v).take (l.length * 6)) l.length l.length false, ts_rows hv _ _, fun s' h e => by rw [← e]; exact ts_rows h _ _, fun σ hxs hr => ?_⟩
      rw [← rowOf_ext hxs hv.sl]
      have hv := hv.x hxs
      refine fn_of code_slices_Clone_api_Term_api_Term (by simp) ?_
      have hx := ext_Sx (s := σ) (l := [.cells []]) hr (by simp)
      have hrow := ts_row_len hv
      simp only [go_sem, ↓reduceIte, Nat.reduceMod, Nat.reduceEqDiff, Nat.reduceAdd, Nat.reduceMul, Nat.reduceSub, Nat.reduceLeDiff, Nat.reduceLT, Int.reduceEq, Int.reduceLT, Int.reduceLE, Int.reduceAdd, Int.reduceSub, Int.reduceNeg, reduceCtorEq, Nat.reduceShiftRight, Nat.reduceAnd, Nat.reduceBNe, hr, vnileq_sl hv.sl hn, vapp_lit (sz := 6) (bytes := 88) (i := 0) (L := [.cells []]) hr (by simp) rfl (hv.sl.ext hx) (by rw [rowOf_ext hx hv.sl, hv.len]; omega) (by rw [hv.len]; unfold limit; omega) h0, rowOf_ext hx hv.sl, hv.len]
      have hf := fz_own (s := σ) (L := [.cells [], .cells ((rowOf σ v).take (l.length * 6))]) hr (by simp) (i := 1) (o := 0) (len := l.length) (cap := l.length) (ex := 6) rfl (ts_row_ov hv)
      exact settled_fz (ext_Sx hr (by simp)) hf
/-- No term. -/
def zeroT : T := .mk 0 ⟨false, []⟩ [] 0 []
abbrev zeroC : List AV := [.int .i64 0, .bool false, .nils, .str [], .int .i64 0, .nils]
theorem zero_rep (s : St) : RT6 s zeroC zeroT := ⟨.bool false, .nils, .nils, rfl, ⟨rfl, nats_nil s⟩, ts_nil s⟩
theorem ov_res {n : Nat} {cs : List AV} (h : ∀ c ∈ cs, Ov n c) (e : Int) : Ov n (.tup [.agg cs, .int .i64 e]) := ov_tup (by intro c hc; simp at hc; rcases hc with rfl | rfl; exact ov_agg h; exact ov_int _ _ _)
theorem small_ok (s : St) (cs : List AV) (t : T) (hr : Room s) (hn : s.n.val ≤ 50000) (h : RT6 s cs t) : CA F.term_small [.agg cs] s = .ok (.tup [.agg (if 400 < t.size then zeroC else cs), .int .i64 (if 400 < t.size then 11 else 0)]) s := by
  have h' := h
  obtain ⟨ng, mg, kv, rfl, hz, hk⟩ := h.ex
  obtain ⟨L, hL⟩ : ∃ L : List AO, L = [.cells [.int .i64 t.op, ng, mg, .str t.name, .int .i64 t.sort, kv], .cells zeroC] := ⟨_, rfl⟩
  have hlen : L.length = 2 := by rw [hL]; rfl
  have hx1 := ext_Sx (s := s) (l := L) hr (by omega)
  have hr1 := hr.Sx (l := L) (by omega) (by omega)
  have hn1 := Sx_n (s := s) (l := L) hr (by omega)
  have f1 := Count_ok (Sx s L) _ t hr1 (by omega) (h'.x hx1)
  rw [hL] at f1
  refine fn_of code_term_small (by simp) ?_
  by_cases c : 400 < t.size
  · have c' : (400 : Int) < min 401 (t.size : Int) := by omega
    rw [if_pos c, if_pos c]
    simp only [go_sem, ↓reduceIte, Nat.reduceMod, Nat.reduceEqDiff, Nat.reduceAdd, Nat.reduceMul, Nat.reduceSub, Nat.reduceLeDiff, Nat.reduceLT, Int.reduceEq, Int.reduceLT, Int.reduceLE, Int.reduceAdd, Int.reduceSub, Int.reduceNeg, reduceCtorEq, Nat.reduceShiftRight, Nat.reduceAnd, Nat.reduceBNe, hr, f1, c']
    exact settled_ov (ext_Sx hr (by simp)) (ov_res (rt6_ov (zero_rep s)) 11)
  · have c' : ¬ (400 : Int) < min 401 (t.size : Int) := by omega
    rw [if_neg c, if_neg c]
    simp only [go_sem, ↓reduceIte, Nat.reduceMod, Nat.reduceEqDiff, Nat.reduceAdd, Nat.reduceMul, Nat.reduceSub, Nat.reduceLeDiff, Nat.reduceLT, Int.reduceEq, Int.reduceLT, Int.reduceLE, Int.reduceAdd, Int.reduceSub, Int.reduceNeg, reduceCtorEq, Nat.reduceShiftRight, Nat.reduceAnd, Nat.reduceBNe, hr, f1, c', hz.one, hk.one]
    exact settled_ov (ext_Sx hr (by simp)) (ov_res (rt6_ov h') 0)
end Go.Proofs.Ytjnejkganejdbaa
namespace Go.Proofs.Ytjnejkganejdbaa
open Go Go.Vm
set_option linter.unusedVariables false
set_option linter.unusedSimpArgs false
/-- What is wrong with a term to be made. -/
def makeE (op : Int) (l : List T) : Int :=
  if madeB op = false then 10 else if kidsOk op l.length = false then 18 else if l.all isT = false then 10 else checkE op l
def makeT (op : Int) (l : List T) : T := if makeE op l = 0 then .mk op ⟨false, []⟩ [] (resSort op l) l else zeroT
theorem check_le {op : Int} {l : List T} : checkE op l = if wrongE op l ≠ 0 then wrongE op l else if 400 < 1 + T.sizes l then 11 else 0 := by
  unfold checkE
  by_cases h : 400 < 1 + T.sizes l
  · rw [if_pos h, if_pos (by omega : 400 < min (1 + T.sizes l) 401)]
  · rw [if_neg h, if_neg (by omega : ¬ 400 < min (1 + T.sizes l) 401)]
theorem made_rep {s : St} {v : AV} {l : List T} (op srt : Int) (hv : Ts s v l) : RT6 s [.int .i64 op, .bool false, .nils, .str [], .int .i64 srt, v] (.mk op ⟨false, []⟩ [] srt l) :=
  ⟨.bool false, .nils, v, rfl, ⟨rfl, nats_nil s⟩, hv⟩
theorem Make_ok2 (s : St) (v : AV) (l : List T) (op : Int) (ht : T.tames l) (hr : Room s) (hn : s.n.val ≤ 30000) (hl : l.length ≤ 1000) (hv : Ts s v l) :
    ∃ cs, CA F.term_Make [.int .i64 op, v] s = .ok (.tup [.agg cs, .int .i64 (makeE op l)]) s ∧ ∀ s', Ts s' v l → rowOf s' v = rowOf s v → RT6 s' cs (makeT op l) := by
  obtain ⟨L, hL⟩ : ∃ L : List AO, L = [.cells zeroC] := ⟨_, rfl⟩
  have hlen : L.length = 1 := by rw [hL]; rfl
  have hx1 := ext_Sx (s := s) (l := L) hr (by omega)
  have hr1 := hr.Sx (l := L) (by omega) (by omega)
  have hn1 := Sx_n (s := s) (l := L) hr (by omega)
  have f1 := made_ok (Sx s L) op
  have f2 := kids_ok (Sx s L) op l.length
  have f3 := all_ok (Sx s L) v l ht hr1 (by omega) (hv.x hx1)
  change _ = R.ok (.bool (madeB op)) _ at f1
  have hnb : ∀ i (h : i < l.length), NumB l[i] := fun i hi => numB_of (T.tame_at ht hi)
  have f4 := fun d3 : kidsOk op l.length = true => wrong_ok (Sx s L) v l op hr1 (by omega) (fun e => kids12 (by rw [← e]; exact d3)) (fun _ => kids1 d3) (fun ho => kids2 ho d3) hnb (hv.x hx1)
  have f5 := fun d3 : kidsOk op l.length = true => sort_ok (Sx s L) v l op (fun e => by have := kids12 (l := l) (by rw [← e]; exact d3); omega) (hv.x hx1)
  obtain ⟨r, hrs, hrs2, f6'⟩ := clone_ts_ok s v l (by omega) hv
  have f6 := f6' (Sx s L) hx1 hr1
  have hrt := hrs.x hx1
  have f7 := fun srt => small_ok (Sx s L) _ _ hr1 (by omega) (made_rep op srt hrt)
  rw [hL] at f1 f2 f3 f6
  cases d1 : madeB op
  · have e : makeE op l = 10 := by unfold makeE; rw [if_pos d1]
    refine ⟨zeroC, ?_, fun s' _ _ => by unfold makeT; rw [e]; exact zero_rep s'⟩
    rw [e]
    refine fn_of code_term_Make (by simp) ?_
    simp only [go_sem, ↓reduceIte, Nat.reduceMod, Nat.reduceEqDiff, Nat.reduceAdd, Nat.reduceMul, Nat.reduceSub, Nat.reduceLeDiff, Nat.reduceLT, Int.reduceEq, Int.reduceLT, Int.reduceLE, Int.reduceAdd, Int.reduceSub, Int.reduceNeg, reduceCtorEq, Nat.reduceShiftRight, Nat.reduceAnd, Nat.reduceBNe, hr, f1, d1, Bool.not_false]
    exact settled_ov (ext_Sx hr (by simp)) (ov_res (rt6_ov (zero_rep s)) 10)
  cases d2 : kidsOk op l.length
  · have e : makeE op l = 18 := by unfold makeE; rw [if_neg (by simp [d1]), if_pos d2]
    refine ⟨zeroC, ?_, fun s' _ _ => by unfold makeT; rw [e]; exact zero_rep s'⟩
    rw [e]
    refine fn_of code_term_Make (by simp) ?_
    simp only [go_sem, ↓reduceIte, Nat.reduceMod, Nat.reduceEqDiff, Nat.reduceAdd, Nat.reduceMul, Nat.reduceSub, Nat.reduceLeDiff, Nat.reduceLT, Int.reduceEq, Int.reduceLT, Int.reduceLE, Int.reduceAdd, Int.reduceSub, Int.reduceNeg, reduceCtorEq, Nat.reduceShiftRight, Nat.reduceAnd, Nat.reduceBNe, hr, f1, d1, Bool.not_false, Bool.not_true, hv.vlen, f2, d2]
    exact settled_ov (ext_Sx hr (by simp)) (ov_res (rt6_ov (zero_rep s)) 18)
  cases d3 : l.all isT
  · have e : makeE op l = 10 := by unfold makeE; rw [if_neg (by simp [d1]), if_neg (by simp [d2]), if_pos d3]
    refine ⟨zeroC, ?_, fun s' _ _ => by unfold makeT; rw [e]; exact zero_rep s'⟩
    rw [e]
    refine fn_of code_term_Make (by simp) ?_
    simp only [go_sem, ↓reduceIte, Nat.reduceMod, Nat.reduceEqDiff, Nat.reduceAdd, Nat.reduceMul, Nat.reduceSub, Nat.reduceLeDiff, Nat.reduceLT, Int.reduceEq, Int.reduceLT, Int.reduceLE, Int.reduceAdd, Int.reduceSub, Int.reduceNeg, reduceCtorEq, Nat.reduceShiftRight, Nat.reduceAnd, Nat.reduceBNe, hr, f1, d1, Bool.not_false, Bool.not_true, hv.vlen, f2, d2, f3, d3]
    exact settled_ov (ext_Sx hr (by simp)) (ov_res (rt6_ov (zero_rep s)) 10)
  have e0 : makeE op l = checkE op l := by unfold makeE; rw [if_neg (by simp [d1]), if_neg (by simp [d2]), if_neg (by simp [d3])]
  have f4 := f4 d2
  have f5 := f5 d2
  rw [hL] at f4 f5
  by_cases d4 : wrongE op l = 0
  · have hro := hrt.sl.ov
    have hone := hrt.one
    by_cases d5 : 400 < 1 + T.sizes l
    · have e : makeE op l = 11 := by rw [e0, check_le, if_neg (by simp [d4]), if_pos d5]
      have f7 := f7 (resSort op l)
      have d5' : 400 < (T.mk op ⟨false, []⟩ [] (resSort op l) l).size := by simpa [T.size] using d5
      rw [if_pos d5', if_pos d5', hL] at f7
      refine ⟨zeroC, ?_, fun s' _ _ => by unfold makeT; rw [e]; exact zero_rep s'⟩
      rw [e]
      refine fn_of code_term_Make (by simp) ?_
      simp only [go_sem, ↓reduceIte, Nat.reduceMod, Nat.reduceEqDiff, Nat.reduceAdd, Nat.reduceMul, Nat.reduceSub, Nat.reduceLeDiff, Nat.reduceLT, Int.reduceEq, Int.reduceLT, Int.reduceLE, Int.reduceAdd, Int.reduceSub, Int.reduceNeg, reduceCtorEq, Nat.reduceShiftRight, Nat.reduceAnd, Nat.reduceBNe, hr, f1, d1, Bool.not_true, hv.vlen, f2, d2, f3, d3, f4, d4, ne_eq, not_true_eq_false, f5, f6, hone, f7]
      exact settled_ov (ext_Sx hr (by simp)) (ov_res (rt6_ov (zero_rep s)) 11)
    · have e : makeE op l = 0 := by rw [e0, check_le, if_neg (by simp [d4]), if_neg d5]
      have f7 := f7 (resSort op l)
      have d5' : ¬ 400 < (T.mk op ⟨false, []⟩ [] (resSort op l) l).size := by simpa [T.size] using d5
      rw [if_neg d5', if_neg d5', hL] at f7
      refine ⟨_, ?_, fun s' h1 h2 => by unfold makeT; rw [e, if_pos rfl]; exact made_rep op (resSort op l) (hrs2 s' h1 h2)⟩
      rw [e]
      refine fn_of code_term_Make (by simp) ?_
      simp only [go_sem, ↓reduceIte, Nat.reduceMod, Nat.reduceEqDiff, Nat.reduceAdd, Nat.reduceMul, Nat.reduceSub, Nat.reduceLeDiff, Nat.reduceLT, Int.reduceEq, Int.reduceLT, Int.reduceLE, Int.reduceAdd, Int.reduceSub, Int.reduceNeg, reduceCtorEq, Nat.reduceShiftRight, Nat.reduceAnd, Nat.reduceBNe, hr, f1, d1, Bool.not_true, hv.vlen, f2, d2, f3, d3, f4, d4, ne_eq, not_true_eq_false, f5, f6, hone, f7]
      exact settled_ov (ext_Sx hr (by simp)) (ov_res (rt6_ov (made_rep op (resSort op l) hrs)) 0)
  · have e : makeE op l = wrongE op l := by rw [e0, check_le, if_pos d4]
    refine ⟨zeroC, ?_, fun s' _ _ => by unfold makeT; rw [e, if_neg d4]; exact zero_rep s'⟩
    rw [e]
    refine fn_of code_term_Make (by simp) ?_
    simp only [go_sem, ↓reduceIte, Nat.reduceMod, Nat.reduceEqDiff, Nat.reduceAdd, Nat.reduceMul, Nat.reduceSub, Nat.reduceLeDiff, Nat.reduceLT, Int.reduceEq, Int.reduceLT, Int.reduceLE, Int.reduceAdd, Int.reduceSub, Int.reduceNeg, reduceCtorEq, Nat.reduceShiftRight, Nat.reduceAnd, Nat.reduceBNe, hr, f1, d1, Bool.not_true, hv.vlen, f2, d2, f3, d3, f4, ne_eq, d4, not_false_eq_true]
    exact settled_ov (ext_Sx hr (by simp)) (ov_res (rt6_ov (zero_rep s)) _)
theorem Make_ok (s : St) (v : AV) (l : List T) (op : Int) (ht : T.tames l) (hr : Room s) (hn : s.n.val ≤ 30000) (hl : l.length ≤ 1000) (hv : Ts s v l) :
    ∃ cs, CA F.term_Make [.int .i64 op, v] s = .ok (.tup [.agg cs, .int .i64 (makeE op l)]) s ∧ RT6 s cs (makeT op l) := by
  obtain ⟨cs, h1, h2⟩ := Make_ok2 s v l op ht hr hn hl hv
  exact ⟨cs, h1, h2 s hv rfl⟩
end Go.Proofs.Ytjnejkganejdbaa
namespace Go.Proofs.Ytjnejkganejdbaa
open Go Go.Vm
set_option linter.unusedVariables false
set_option linter.unusedSimpArgs false
/-- What is wrong with a function's term. -/
def appE (g : Sg) (l : List T) : Int :=
  if sigOk g = false then 10 else if l.length ≠ g.args.length then 18 else if l.all isT = false then 10 else if l.map T.sort ≠ g.args then 17 else if 400 < 1 + T.sizes l then 11 else 0
def appT (g : Sg) (l : List T) : T := if appE g l = 0 then .mk 4 ⟨false, []⟩ g.name g.ret l else zeroT
theorem app_rep {s : St} {v : AV} {l : List T} (g : Sg) (hv : Ts s v l) : RT6 s [.int .i64 4, .bool false, .nils, .str g.name, .int .i64 g.ret, v] (.mk 4 ⟨false, []⟩ g.name g.ret l) :=
  ⟨.bool false, .nils, v, rfl, ⟨rfl, nats_nil s⟩, hv⟩
theorem ints_x {s s' : St} {v : AV} {l : List Int} (h : Ints s v l) (hx : Ext s s') : Ints s' v l := Ints.x h hx
theorem sorts_step {l : List T} {a : List Int} {i : Nat} (h1 : i < l.length) (h2 : i < a.length) (h : (l.take i).map T.sort = a.take i) (e : l[i].sort = a[i]) : (l.take (i + 1)).map T.sort = a.take (i + 1) := by
  rw [← List.take_append_getElem h1, ← List.take_append_getElem h2, List.map_append, h]; simp [e]
theorem sorts_ne {l : List T} {a : List Int} {i : Nat} (h1 : i < l.length) (h2 : i < a.length) (e : l[i].sort ≠ a[i]) : l.map T.sort ≠ a := by
  intro h; subst h; simp at e
theorem App_ok2 (s : St) (v av : AV) (l : List T) (g : Sg) (ht : T.tames l) (hr : Room s) (hn : s.n.val ≤ 20000) (hl : l.length ≤ 1000) (hv : Ts s v l) (ha : Ints s av g.args) :
    ∃ cs, CA F.term_App [.agg [.str g.name, av, .int .i64 g.ret], v] s = .ok (.tup [.agg cs, .int .i64 (appE g l)]) s ∧ ∀ s', Ts s' v l → rowOf s' v = rowOf s v → RT6 s' cs (appT g l) := by
  obtain ⟨L, hL⟩ : ∃ L : List AO, L = [.cells [.str g.name, av, .int .i64 g.ret], .cells zeroC] := ⟨_, rfl⟩
  have hlen : L.length = 2 := by rw [hL]; rfl
  have hx1 := ext_Sx (s := s) (l := L) hr (by omega)
  have hr1 := hr.Sx (l := L) (by omega) (by omega)
  have hn1 := Sx_n (s := s) (l := L) hr (by omega)
  have hm := hv.most
  have ham := ha.most
  have f1 := IsSig_ok (Sx s L) g av hr1 (by omega) (ha.x hx1)
  have f3 := all_ok (Sx s L) v l ht hr1 (by omega) (hv.x hx1)
  rw [hL] at f1 f3
  cases d1 : sigOk g
  · have e : appE g l = 10 := by unfold appE; rw [if_pos d1]
    refine ⟨zeroC, ?_, fun s' _ _ => by unfold appT; rw [e]; exact zero_rep s'⟩
    rw [e]
    refine fn_of code_term_App (by simp) ?_
    simp only [go_sem, ↓reduceIte, Nat.reduceMod, Nat.reduceEqDiff, Nat.reduceAdd, Nat.reduceMul, Nat.reduceSub, Nat.reduceLeDiff, Nat.reduceLT, Int.reduceEq, Int.reduceLT, Int.reduceLE, Int.reduceAdd, Int.reduceSub, Int.reduceNeg, reduceCtorEq, Nat.reduceShiftRight, Nat.reduceAnd, Nat.reduceBNe, hr, f1, d1, Bool.not_false]
    exact settled_ov (ext_Sx hr (by simp)) (ov_res (rt6_ov (zero_rep s)) 10)
  by_cases d2 : l.length = g.args.length
  rotate_left
  · have e : appE g l = 18 := by unfold appE; rw [if_neg (by simp [d1]), if_pos d2]
    have d2' : ¬ (l.length : Int) = (g.args.length : Int) := by omega
    refine ⟨zeroC, ?_, fun s' _ _ => by unfold appT; rw [e]; exact zero_rep s'⟩
    rw [e]
    refine fn_of code_term_App (by simp) ?_
    simp only [go_sem, ↓reduceIte, Nat.reduceMod, Nat.reduceEqDiff, Nat.reduceAdd, Nat.reduceMul, Nat.reduceSub, Nat.reduceLeDiff, Nat.reduceLT, Int.reduceEq, Int.reduceLT, Int.reduceLE, Int.reduceAdd, Int.reduceSub, Int.reduceNeg, reduceCtorEq, Nat.reduceShiftRight, Nat.reduceAnd, Nat.reduceBNe, hr, f1, d1, Bool.not_true, hv.vlen, ha.vlen, ne_eq, d2', not_false_eq_true]
    exact settled_ov (ext_Sx hr (by simp)) (ov_res (rt6_ov (zero_rep s)) 18)
  have d2' : (l.length : Int) = (g.args.length : Int) := by omega
  cases d3 : l.all isT
  · have e : appE g l = 10 := by unfold appE; rw [if_neg (by simp [d1]), if_neg (by simp [d2]), if_pos d3]
    refine ⟨zeroC, ?_, fun s' _ _ => by unfold appT; rw [e]; exact zero_rep s'⟩
    rw [e]
    refine fn_of code_term_App (by simp) ?_
    simp only [go_sem, ↓reduceIte, Nat.reduceMod, Nat.reduceEqDiff, Nat.reduceAdd, Nat.reduceMul, Nat.reduceSub, Nat.reduceLeDiff, Nat.reduceLT, Int.reduceEq, Int.reduceLT, Int.reduceLE, Int.reduceAdd, Int.reduceSub, Int.reduceNeg, reduceCtorEq, Nat.reduceShiftRight, Nat.reduceAnd, Nat.reduceBNe, hr, f1, d1, Bool.not_true, Bool.not_false, hv.vlen, ha.vlen, ne_eq, d2', not_true_eq_false, f3, d3]
    exact settled_ov (ext_Sx hr (by simp)) (ov_res (rt6_ov (zero_rep s)) 10)
  have e0 : appE g l = if l.map T.sort ≠ g.args then 17 else if 400 < 1 + T.sizes l then 11 else 0 := by unfold appE; rw [if_neg (by simp [d1]), if_neg (by simp [d2]), if_neg (by simp [d3])]
  have v0 := nm_val hr (k := 0) (by omega)
  have v1 := nm_val hr (k := 1) (by omega)
  have q1 := Sx_obj? (s := s) (l := L) hr (by omega) (i := 0) (by rw [hL]; rfl)
  have q2 := Sx_obj? (s := s) (l := L) hr (by omega) (i := 1) (by rw [hL]; rfl)
  obtain ⟨r, hrs, hrs2, hcl⟩ := clone_ts_ok s v l (by omega) hv
  have hone := hrs.one
  have key : ∃ cs, (∀ s', Ts s' v l → rowOf s' v = rowOf s v → RT6 s' cs (appT g l)) ∧ (l.map T.sort ≠ g.args → appE g l = 17 ∧ cs = zeroC) ∧ (l.map T.sort = g.args → (400 < 1 + T.sizes l → appE g l = 11 ∧ cs = zeroC) ∧ (¬ 400 < 1 + T.sizes l → appE g l = 0 ∧ cs = [.int .i64 4, .bool false, .nils, .str g.name, .int .i64 g.ret, r])) := by
    by_cases d4 : l.map T.sort = g.args
    · by_cases d5 : 400 < 1 + T.sizes l
      · have e : appE g l = 11 := by rw [e0, if_neg (by simp [d4]), if_pos d5]
        exact ⟨zeroC, fun s' _ _ => by unfold appT; rw [e]; exact zero_rep s', fun h => absurd d4 h, fun _ => ⟨fun _ => ⟨e, rfl⟩, fun h => absurd d5 h⟩⟩
      · have e : appE g l = 0 := by rw [e0, if_neg (by simp [d4]), if_neg d5]
        exact ⟨_, fun s' h1 h2 => by unfold appT; rw [e, if_pos rfl]; exact app_rep g (hrs2 s' h1 h2), fun h => absurd d4 h, fun _ => ⟨fun h => absurd h d5, fun _ => ⟨e, rfl⟩⟩⟩
    · have e : appE g l = 17 := by rw [e0, if_pos d4]
      exact ⟨zeroC, fun s' _ _ => by unfold appT; rw [e]; exact zero_rep s', fun _ => ⟨e, rfl⟩, fun h => absurd h d4⟩
  obtain ⟨rc, hrc, k1, k2⟩ := key
  refine ⟨rc, ?_, hrc⟩
  refine fn_of code_term_App (by simp) ?_
  simp only [go_sem, ↓reduceIte, Nat.reduceMod, Nat.reduceEqDiff, Nat.reduceAdd, Nat.reduceMul, Nat.reduceSub, Nat.reduceLeDiff, Nat.reduceLT, Int.reduceEq, Int.reduceLT, Int.reduceLE, Int.reduceAdd, Int.reduceSub, Int.reduceNeg, reduceCtorEq, Nat.reduceShiftRight, Nat.reduceAnd, Nat.reduceBNe, hr, f1, d1, Bool.not_true, Bool.not_false, hv.vlen, ha.vlen, ne_eq, d2', not_true_eq_false, f3, d3]
  rw [← hL]
  generalize nm s 1 = b2 at *
  generalize nm s 0 = b1 at *
  refine W_inv (fun k f τ => ∃ (i : Nat) (σ : St), Sx σ [] = τ ∧ Room σ ∧ Ext s σ ∧ s.n.val + 2 ≤ σ.n.val ∧ σ.n.val ≤ s.n.val + 2 + 9 * i ∧ k = l.length - i ∧ i ≤ l.length ∧ σ.obj b2 = .cells zeroC ∧ σ.obj b1 = .cells [.str g.name, av, .int .i64 g.ret] ∧ (l.take i).map T.sort = g.args.take i ∧
    (vv 1).get f = v ∧ (vv 2).get f = .ptr b1 0 ∧ (vv 4).get f = .ptr b2 0 ∧ (vv 26).get f = v ∧ (vv 27).get f = .int .i64 (g.args.length : Int) ∧ (vv 28).get f = .int .i64 (i : Int)) ?_ ⟨0, _, Sx_nil _, hr1, hx1, by omega, by omega, rfl, by omega, q2, q1, by simp, ?_⟩
  · rintro k f τ ⟨i, σ, rfl, hr2, hx, hn2, hn3, rfl, hi, o2, o1, hs, g1, g2, g4, g26, g27, g28⟩
    have w2 : b2.val < σ.n.val := by omega
    have w1 : b1.val < σ.n.val := by omega
    have hv2 := hv.x hx
    have ha2 := ints_x ha hx
    by_cases c1 : i < l.length
    · obtain ⟨cs, hat⟩ := hv2.at c1
      have h6 := hat.t6
      have hlen6 := hat.len
      obtain ⟨ng', mg', kv', rfl, hz', hkv'⟩ := hat.t6.ex
      have ca : i < g.args.length := by omega
      simp only [go_sem, ↓reduceIte, Nat.reduceMod, Nat.reduceEqDiff, Nat.reduceAdd, Nat.reduceMul, Nat.reduceSub, Nat.reduceLeDiff, Nat.reduceLT, Int.reduceEq, Int.reduceLT, Int.reduceLE, Int.reduceAdd, Int.reduceSub, Int.reduceNeg, reduceCtorEq, Nat.reduceShiftRight, Nat.reduceAnd, Nat.reduceBNe, g1, g2, g4, g26, g27, g28, Int.ofNat_lt, ca, hr2, hv2.ia c1, hat.ld, w1, w2, o1, o2]
      refine W_drawn hr2 _ (by simp) ?_
      by_cases d4 : l[i].sort = g.args[i]
      · simp only [go_sem, ↓reduceIte, Nat.reduceMod, Nat.reduceEqDiff, Nat.reduceAdd, Nat.reduceMul, Nat.reduceSub, Nat.reduceLeDiff, Nat.reduceLT, Int.reduceEq, Int.reduceLT, Int.reduceLE, Int.reduceAdd, Int.reduceSub, Int.reduceNeg, reduceCtorEq, Nat.reduceShiftRight, Nat.reduceAnd, Nat.reduceBNe, g1, g2, g4, g26, g27, g28, hr2, w1, w2, o1, o2, ha2.ia ca, ha2.i64 ca, ne_eq, d4, not_true_eq_false]
        refine ⟨l.length - (i + 1), by omega, i + 1, _, Sx_nil _, hr2.Sx (by simp; omega) (by simp), hx.trans (ext_Sx hr2 (by simp)), ?_, ?_, rfl, by omega, ?_, ?_, sorts_step c1 ca hs d4, ?_⟩
        · rw [Sx_n hr2 (by simp)]; simp; omega
        · rw [Sx_n hr2 (by simp)]; simp; omega
        · rw [Sx_old hr2 (by simp) w2]; exact o2
        · rw [Sx_old hr2 (by simp) w1]; exact o1
        · rw [wrap_i64 (by omega) (by omega)]; congr 1
      · obtain ⟨e, rfl⟩ := k1 (sorts_ne c1 ca d4)
        rw [e]
        simp only [go_sem, ↓reduceIte, Nat.reduceMod, Nat.reduceEqDiff, Nat.reduceAdd, Nat.reduceMul, Nat.reduceSub, Nat.reduceLeDiff, Nat.reduceLT, Int.reduceEq, Int.reduceLT, Int.reduceLE, Int.reduceAdd, Int.reduceSub, Int.reduceNeg, reduceCtorEq, Nat.reduceShiftRight, Nat.reduceAnd, Nat.reduceBNe, g1, g2, g4, g26, g27, g28, hr2, w1, w2, o1, o2, ha2.ia ca, ha2.i64 ca, ne_eq, d4, not_false_eq_true]
        exact settled_ov ((hx.put (by omega) _).trans (ext_Sx (hr2.put w2 _) (by simp))) (ov_res (rt6_ov (zero_rep s)) 17)
    · have e : i = l.length := by omega
      subst e
      have ca : ¬ l.length < g.args.length := by omega
      rw [List.take_length, d2, List.take_length] at hs
      obtain ⟨k3, k4⟩ := k2 hs
      have f6 := hcl (Sx σ [.dead, .dead, .dead, .dead, .dead, .dead, .dead, .dead, .dead, .dead, .dead, .dead]) (hx.trans (ext_Sx hr2 (by simp))) (hr2.Sx (by simp; omega) (by simp))
      have f7 := small_ok (Sx σ [.dead, .dead, .dead, .dead, .dead, .dead, .dead, .dead, .dead, .dead, .dead, .dead]) _ _ (hr2.Sx (by simp; omega) (by simp)) (by rw [Sx_n hr2 (by simp)]; simp; omega) (app_rep g (hrs.x (hx.trans (ext_Sx hr2 (by simp)))))
      by_cases d5 : 400 < 1 + T.sizes l
      · obtain ⟨e, rfl⟩ := k3 d5
        have d5' : 400 < (T.mk 4 ⟨false, []⟩ g.name g.ret l).size := by simpa [T.size] using d5
        rw [if_pos d5', if_pos d5'] at f7
        rw [e]
        simp only [go_sem, ↓reduceIte, Nat.reduceMod, Nat.reduceEqDiff, Nat.reduceAdd, Nat.reduceMul, Nat.reduceSub, Nat.reduceLeDiff, Nat.reduceLT, Int.reduceEq, Int.reduceLT, Int.reduceLE, Int.reduceAdd, Int.reduceSub, Int.reduceNeg, reduceCtorEq, Nat.reduceShiftRight, Nat.reduceAnd, Nat.reduceBNe, g1, g2, g4, g26, g27, g28, Int.ofNat_lt, ca, hr2, w1, w2, o1, o2]
        refine W_drawn hr2 _ (by simp) ?_
        simp only [go_sem, ↓reduceIte, Nat.reduceMod, Nat.reduceEqDiff, Nat.reduceAdd, Nat.reduceMul, Nat.reduceSub, Nat.reduceLeDiff, Nat.reduceLT, Int.reduceEq, Int.reduceLT, Int.reduceLE, Int.reduceAdd, Int.reduceSub, Int.reduceNeg, reduceCtorEq, Nat.reduceShiftRight, Nat.reduceAnd, Nat.reduceBNe, g1, g2, g4, g26, g27, g28, hr2, w1, w2, o1, o2, f6, hone, f7]
        exact settled_ov ((hx.put (by omega) _).trans (ext_Sx (hr2.put w2 _) (by simp))) (ov_res (rt6_ov (zero_rep s)) 11)
      · obtain ⟨e, rfl⟩ := k4 d5
        have d5' : ¬ 400 < (T.mk 4 ⟨false, []⟩ g.name g.ret l).size := by simpa [T.size] using d5
        rw [if_neg d5', if_neg d5'] at f7
        rw [e]
        simp only [go_sem, ↓reduceIte, Nat.reduceMod, Nat.reduceEqDiff, Nat.reduceAdd, Nat.reduceMul, Nat.reduceSub, Nat.reduceLeDiff, Nat.reduceLT, Int.reduceEq, Int.reduceLT, Int.reduceLE, Int.reduceAdd, Int.reduceSub, Int.reduceNeg, reduceCtorEq, Nat.reduceShiftRight, Nat.reduceAnd, Nat.reduceBNe, g1, g2, g4, g26, g27, g28, Int.ofNat_lt, ca, hr2, w1, w2, o1, o2]
        refine W_drawn hr2 _ (by simp) ?_
        simp only [go_sem, ↓reduceIte, Nat.reduceMod, Nat.reduceEqDiff, Nat.reduceAdd, Nat.reduceMul, Nat.reduceSub, Nat.reduceLeDiff, Nat.reduceLT, Int.reduceEq, Int.reduceLT, Int.reduceLE, Int.reduceAdd, Int.reduceSub, Int.reduceNeg, reduceCtorEq, Nat.reduceShiftRight, Nat.reduceAnd, Nat.reduceBNe, g1, g2, g4, g26, g27, g28, hr2, w1, w2, o1, o2, f6, hone, f7]
        exact settled_ov ((hx.put (by omega) _).trans (ext_Sx (hr2.put w2 _) (by simp))) (ov_res (rt6_ov (app_rep g hrs)) 0)
  · simp only [go_sem, ↓reduceIte, Nat.reduceMod, Nat.reduceEqDiff, Nat.reduceAdd, Nat.reduceMul, Nat.reduceSub, Nat.reduceLeDiff, Nat.reduceLT, Int.reduceEq, Int.reduceLT, Int.reduceLE, Int.reduceAdd, Int.reduceSub, Int.reduceNeg, reduceCtorEq, Nat.reduceShiftRight, Nat.reduceAnd, Nat.reduceBNe, d2']
    rfl
theorem App_ok (s : St) (v av : AV) (l : List T) (g : Sg) (ht : T.tames l) (hr : Room s) (hn : s.n.val ≤ 20000) (hl : l.length ≤ 1000) (hv : Ts s v l) (ha : Ints s av g.args) :
    ∃ cs, CA F.term_App [.agg [.str g.name, av, .int .i64 g.ret], v] s = .ok (.tup [.agg cs, .int .i64 (appE g l)]) s ∧ RT6 s cs (appT g l) := by
  obtain ⟨cs, h1, h2⟩ := App_ok2 s v av l g ht hr hn hl hv ha
  exact ⟨cs, h1, h2 s hv rfl⟩
end Go.Proofs.Ytjnejkganejdbaa
