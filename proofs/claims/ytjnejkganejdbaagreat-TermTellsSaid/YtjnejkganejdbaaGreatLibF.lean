/- Functions of the program: terms made, compared. No condition. -/
import Derived.Test.YtjnejkganejdbaaGreatLibE
namespace Go.Vm
mutual
/-- No number in it is too long. -/
def T.tame : T → Prop
  | .mk _ n name _ ks => n.mag.length ≤ 1000 ∧ name.length ≤ 1000 ∧ T.tames ks
def T.tames : List T → Prop
  | [] => True
  | t :: l => T.tame t ∧ T.tames l
end
theorem T.tame_at {l : List T} (h : T.tames l) {i : Nat} (hi : i < l.length) : l[i].tame := by
  induction l generalizing i with
  | nil => simp at hi
  | cons a l ih => cases i with
    | zero => exact h.1
    | succ i => exact ih h.2 (by simpa using hi)
theorem T.tame_kids {t : T} (h : t.tame) : t.n.mag.length ≤ 1000 ∧ T.tames t.kids := by cases t; exact ⟨h.1, h.2.2⟩
theorem T.tame_name {t : T} (h : t.tame) : t.name.length ≤ 1000 := by cases t; exact h.2.1
end Go.Vm
namespace Go.Proofs.YtjnejkganejdbaaGreat
open Go Go.Vm
set_option linter.unusedVariables false
set_option linter.unusedSimpArgs false
theorem numB_of {t : T} (h : t.tame) : NumB t := fun hi => by
  have h1 := T.tame_at (T.tame_kids h).2 hi
  have h2 := (T.tame_kids h1).1
  omega
mutual
/-- A term's nodes may all be. -/
def isN : T → Bool
  | .mk op n name sort ks => isNs ks && nodeOk (.mk op n name sort ks)
def isNs : List T → Bool
  | [] => true
  | t :: l => isN t && isNs l
end
theorem isN_eq (t : T) : isN t = (isNs t.kids && nodeOk t) := by cases t; rfl
theorem isNs_all (l : List T) : isNs l = l.all isN := by
  induction l with
  | nil => rfl
  | cons a l ih => simp [isNs, ih]
theorem nodes_ok : ∀ (n : Nat) (l : List T), T.sizes l ≤ n → T.sizes l ≤ 400 → T.tames l → ∀ (s : St) (v : AV), Room s → s.n.val + T.sizes l ≤ 40000 → Ts s v l → CA F.term_nodes [v] s = .ok (.bool (isNs l)) s := by
  intro n
  induction n with
  | zero =>
    intro l hl _ _ s v hr hn hv
    have hlen := T.length_le l
    have e : l = [] := List.eq_nil_of_length_eq_zero (by omega)
    subst e
    refine fn_of code_term_nodes (by simp) ?_
    simp only [go_sem, ↓reduceIte, Nat.reduceMod, Nat.reduceEqDiff, Nat.reduceAdd, Nat.reduceMul, Nat.reduceSub, Nat.reduceLeDiff, Nat.reduceLT, Int.reduceEq, Int.reduceLT, Int.reduceLE, Int.reduceAdd, Int.reduceSub, Int.reduceNeg, reduceCtorEq, Nat.reduceShiftRight, Nat.reduceAnd, Nat.reduceBNe, hv.vlen, List.length_nil]
    rw [W_loop]
    simp only [go_sem, ↓reduceIte, Nat.reduceMod, Nat.reduceEqDiff, Nat.reduceAdd, Nat.reduceMul, Nat.reduceSub, Nat.reduceLeDiff, Nat.reduceLT, Int.reduceEq, Int.reduceLT, Int.reduceLE, Int.reduceAdd, Int.reduceSub, Int.reduceNeg, reduceCtorEq, Nat.reduceShiftRight, Nat.reduceAnd, Nat.reduceBNe, Int.lt_irrefl]
    exact settled_bool (Ext.refl s) rfl
  | succ n ihn =>
    intro l hl h4 ht s v hr hn hv
    have hm := hv.most
    have hle := T.length_le l
    rw [isNs_all]
    refine fn_of code_term_nodes (by simp) ?_
    simp only [go_sem, ↓reduceIte, Nat.reduceMod, Nat.reduceEqDiff, Nat.reduceAdd, Nat.reduceMul, Nat.reduceSub, Nat.reduceLeDiff, Nat.reduceLT, Int.reduceEq, Int.reduceLT, Int.reduceLE, Int.reduceAdd, Int.reduceSub, Int.reduceNeg, reduceCtorEq, Nat.reduceShiftRight, Nat.reduceAnd, Nat.reduceBNe, hv.vlen]
    refine W_inv (fun k f τ => ∃ (i : Nat) (σ : St), Sx σ [] = τ ∧ Room σ ∧ Ext s σ ∧ σ.n.val ≤ s.n.val + i ∧ k = l.length - i ∧ i ≤ l.length ∧ i ≤ T.sizes (l.take i) ∧ (l.take i).all isN = true ∧ (vv 5).get f = v ∧ (vv 6).get f = .int .i64 (l.length : Int) ∧ (vv 7).get f = .int .i64 (i : Int)) ?_ ⟨0, s, rfl, hr, Ext.refl s, by omega, rfl, by omega, by omega, by simp, ?_⟩
    · rintro k f τ ⟨i, σ, rfl, hr1, hx, hn1, rfl, hi, his, ha, g5, g6, g7⟩
      have hv1 := hv.x hx
      by_cases c1 : i < l.length
      · obtain ⟨cs, hat⟩ := hv1.at c1
        have hs := T.sizes_take l i c1
        have hs2 := T.size_at c1
        have hs3 := T.size_kids l[i]
        have hsl := T.sizes_le l (i + 1)
        have hkl := T.length_le l[i].kids
        have htm := T.tame_at ht c1
        have h6 := hat.t6
        have hlen6 := hat.len
        obtain ⟨ng, mg, kv, rfl, hz, hkv⟩ := hat.t6.ex
        obtain ⟨L, hL⟩ : ∃ L : List AO, L = [.cells [.int .i64 l[i].op, ng, mg, .str l[i].name, .int .i64 l[i].sort, kv]] := ⟨_, rfl⟩
        have hlen : L.length = 1 := by rw [hL]; rfl
        have hx2 := ext_Sx (s := σ) (l := L) hr1 (by omega)
        have hr2 := hr1.Sx (l := L) (by omega) (by omega)
        have hn2 := Sx_n (s := σ) (l := L) hr1 (by omega)
        have f1 := ihn l[i].kids (by omega) (by omega) (T.tame_kids htm).2 (Sx σ L) kv hr2 (by omega) (hkv.x hx2)
        have f2 := node_ok (Sx σ L) _ l[i] hr2 (by omega) (by omega) (fun j hj => numB_of (T.tame_at (T.tame_kids htm).2 hj)) (h6.x hx2)
        rw [hL] at f1 f2 hx2
        cases d1 : isNs l[i].kids
        · simp only [go_sem, ↓reduceIte, Nat.reduceMod, Nat.reduceEqDiff, Nat.reduceAdd, Nat.reduceMul, Nat.reduceSub, Nat.reduceLeDiff, Nat.reduceLT, Int.reduceEq, Int.reduceLT, Int.reduceLE, Int.reduceAdd, Int.reduceSub, Int.reduceNeg, reduceCtorEq, Nat.reduceShiftRight, Nat.reduceAnd, Nat.reduceBNe, g5, g6, g7, Int.ofNat_lt, c1, hr1, hv1.ia c1, hat.ld, f1, d1, Bool.not_false]
          exact settled_bool (hx.trans (ext_Sx hr1 (by simp))) (by rw [allT_false c1 (by rw [isN_eq, d1]; rfl)])
        · cases d2 : nodeOk l[i]
          · simp only [go_sem, ↓reduceIte, Nat.reduceMod, Nat.reduceEqDiff, Nat.reduceAdd, Nat.reduceMul, Nat.reduceSub, Nat.reduceLeDiff, Nat.reduceLT, Int.reduceEq, Int.reduceLT, Int.reduceLE, Int.reduceAdd, Int.reduceSub, Int.reduceNeg, reduceCtorEq, Nat.reduceShiftRight, Nat.reduceAnd, Nat.reduceBNe, g5, g6, g7, Int.ofNat_lt, c1, hr1, hv1.ia c1, hat.ld, f1, d1, Bool.not_true, Bool.not_false, f2, d2]
            exact settled_bool (hx.trans (ext_Sx hr1 (by simp))) (by rw [allT_false c1 (by rw [isN_eq, d1, d2]; rfl)])
          · simp only [go_sem, ↓reduceIte, Nat.reduceMod, Nat.reduceEqDiff, Nat.reduceAdd, Nat.reduceMul, Nat.reduceSub, Nat.reduceLeDiff, Nat.reduceLT, Int.reduceEq, Int.reduceLT, Int.reduceLE, Int.reduceAdd, Int.reduceSub, Int.reduceNeg, reduceCtorEq, Nat.reduceShiftRight, Nat.reduceAnd, Nat.reduceBNe, g5, g6, g7, Int.ofNat_lt, c1, hr1, hv1.ia c1, hat.ld, f1, d1, Bool.not_true, f2, d2]
            refine ⟨l.length - (i + 1), by omega, i + 1, _, Sx_nil _, hr1.Sx (by simp; omega) (by simp), hx.trans (ext_Sx hr1 (by simp)), ?_, rfl, by omega, by omega, ?_, ?_⟩
            · rw [Sx_n hr1 (by simp)]; simp; omega
            · rw [allT_take c1, ha, isN_eq, d1, d2]; rfl
            · rw [wrap_i64 (by omega) (by omega)]; congr 1
      · have e : i = l.length := by omega
        subst e
        rw [List.take_length] at ha
        simp only [go_sem, ↓reduceIte, Nat.reduceMod, Nat.reduceEqDiff, Nat.reduceAdd, Nat.reduceMul, Nat.reduceSub, Nat.reduceLeDiff, Nat.reduceLT, Int.reduceEq, Int.reduceLT, Int.reduceLE, Int.reduceAdd, Int.reduceSub, Int.reduceNeg, reduceCtorEq, Nat.reduceShiftRight, Nat.reduceAnd, Nat.reduceBNe, g5, g6, g7, Int.ofNat_lt, c1]
        exact settled_bool hx ha.symm
    · simp only [go_sem, ↓reduceIte, Nat.reduceMod, Nat.reduceEqDiff, Nat.reduceAdd, Nat.reduceMul, Nat.reduceSub, Nat.reduceLeDiff, Nat.reduceLT, Int.reduceEq, Int.reduceLT, Int.reduceLE, Int.reduceAdd, Int.reduceSub, Int.reduceNeg, reduceCtorEq, Nat.reduceShiftRight, Nat.reduceAnd, Nat.reduceBNe]
      rfl
/-- Is it a term? -/
def isT (t : T) : Bool := decide (t.size ≤ 400) && isN t
theorem all_ok (s : St) (v : AV) (l : List T) (ht : T.tames l) (hr : Room s) (hn : s.n.val + 2 * l.length ≤ 39000) (hv : Ts s v l) : CA F.term_all [v] s = .ok (.bool (l.all isT)) s := by
  have hm := hv.most
  refine fn_of code_term_all (by simp) ?_
  simp only [go_sem, ↓reduceIte, Nat.reduceMod, Nat.reduceEqDiff, Nat.reduceAdd, Nat.reduceMul, Nat.reduceSub, Nat.reduceLeDiff, Nat.reduceLT, Int.reduceEq, Int.reduceLT, Int.reduceLE, Int.reduceAdd, Int.reduceSub, Int.reduceNeg, reduceCtorEq, Nat.reduceShiftRight, Nat.reduceAnd, Nat.reduceBNe, hv.vlen]
  refine W_inv (fun k f τ => ∃ (i : Nat) (σ : St), Sx σ [] = τ ∧ Room σ ∧ Ext s σ ∧ σ.n.val ≤ s.n.val + 2 * i ∧ k = l.length - i ∧ i ≤ l.length ∧ (l.take i).all isT = true ∧ (vv 5).get f = v ∧ (vv 6).get f = .int .i64 (l.length : Int) ∧ (vv 7).get f = .int .i64 (i : Int)) ?_ ⟨0, s, rfl, hr, Ext.refl s, by omega, rfl, by omega, by simp, ?_⟩
  · rintro k f τ ⟨i, σ, rfl, hr1, hx, hn1, rfl, hi, ha, g5, g6, g7⟩
    have hv1 := hv.x hx
    by_cases c1 : i < l.length
    · obtain ⟨cs, hat⟩ := hv1.at c1
      have htm := T.tame_at ht c1
      have h6 := hat.t6
      have hlen6 := hat.len
      obtain ⟨ng, mg, kv, rfl, hz, hkv⟩ := hat.t6.ex
      obtain ⟨L, hL⟩ : ∃ L : List AO, L = [.cells [.int .i64 l[i].op, ng, mg, .str l[i].name, .int .i64 l[i].sort, kv]] := ⟨_, rfl⟩
      have hlen : L.length = 1 := by rw [hL]; rfl
      have hx2 := ext_Sx (s := σ) (l := L) hr1 (by omega)
      have hr2 := hr1.Sx (l := L) (by omega) (by omega)
      have hn2 := Sx_n (s := σ) (l := L) hr1 (by omega)
      obtain ⟨M, hM⟩ : ∃ M : List AO, M = [.cells [.int .i64 l[i].op, ng, mg, .str l[i].name, .int .i64 l[i].sort, kv], .cells [.int .i64 l[i].op, ng, mg, .str l[i].name, .int .i64 l[i].sort, kv]] := ⟨_, rfl⟩
      have hlenM : M.length = 2 := by rw [hM]; rfl
      have hr3 := hr1.Sx (l := M) (by omega) (by omega)
      have hn3 := Sx_n (s := σ) (l := M) hr1 (by omega)
      have f1 := Count_ok (Sx σ L) _ l[i] hr2 (by omega) (h6.x hx2)
      have o1 := one_sl (L := M) (i := 1) hr1 (by omega) (by rw [hM]; rfl) h6
      rw [hL] at f1 hx2
      by_cases c2 : (400 : Int) < min 401 (l[i].size : Int)
      · simp only [go_sem, ↓reduceIte, Nat.reduceMod, Nat.reduceEqDiff, Nat.reduceAdd, Nat.reduceMul, Nat.reduceSub, Nat.reduceLeDiff, Nat.reduceLT, Int.reduceEq, Int.reduceLT, Int.reduceLE, Int.reduceAdd, Int.reduceSub, Int.reduceNeg, reduceCtorEq, Nat.reduceShiftRight, Nat.reduceAnd, Nat.reduceBNe, g5, g6, g7, Int.ofNat_lt, c1, hr1, hv1.ia c1, hat.ld, hlen6, f1, c2]
        exact settled_bool (hx.trans (ext_Sx hr1 (by simp))) (by rw [allT_false c1 (by rw [isT, decide_eq_false (by omega)]; rfl)])
      · have h4 : l[i].size ≤ 400 := by omega
        have f2 := nodes_ok _ [l[i]] (Nat.le_refl _) (by simp [T.sizes]; omega) ⟨htm, trivial⟩ (Sx σ M) _ hr3 (by simp [T.sizes]; omega) o1
        rw [hM] at f2
        cases d : isN l[i]
        · have d' : isNs [l[i]] = false := by simp [isNs, d]
          simp only [go_sem, ↓reduceIte, Nat.reduceMod, Nat.reduceEqDiff, Nat.reduceAdd, Nat.reduceMul, Nat.reduceSub, Nat.reduceLeDiff, Nat.reduceLT, Int.reduceEq, Int.reduceLT, Int.reduceLE, Int.reduceAdd, Int.reduceSub, Int.reduceNeg, reduceCtorEq, Nat.reduceShiftRight, Nat.reduceAnd, Nat.reduceBNe, g5, g6, g7, Int.ofNat_lt, c1, hr1, hv1.ia c1, hat.ld, hlen6, f1, c2, f2, d', Bool.not_false]
          exact settled_bool (hx.trans (ext_Sx hr1 (by simp))) (by rw [allT_false c1 (by rw [isT, d]; simp)])
        · have d' : isNs [l[i]] = true := by simp [isNs, d]
          simp only [go_sem, ↓reduceIte, Nat.reduceMod, Nat.reduceEqDiff, Nat.reduceAdd, Nat.reduceMul, Nat.reduceSub, Nat.reduceLeDiff, Nat.reduceLT, Int.reduceEq, Int.reduceLT, Int.reduceLE, Int.reduceAdd, Int.reduceSub, Int.reduceNeg, reduceCtorEq, Nat.reduceShiftRight, Nat.reduceAnd, Nat.reduceBNe, g5, g6, g7, Int.ofNat_lt, c1, hr1, hv1.ia c1, hat.ld, hlen6, f1, c2, f2, d', Bool.not_true]
          refine ⟨l.length - (i + 1), by omega, i + 1, _, Sx_nil _, hr1.Sx (by simp; omega) (by simp), hx.trans (ext_Sx hr1 (by simp)), ?_, rfl, by omega, ?_, ?_⟩
          · rw [Sx_n hr1 (by simp)]; simp; omega
          · rw [allT_take c1, ha, isT, d, decide_eq_true h4]; rfl
          · rw [wrap_i64 (by omega) (by omega)]; congr 1
    · have e : i = l.length := by omega
      subst e
      rw [List.take_length] at ha
      simp only [go_sem, ↓reduceIte, Nat.reduceMod, Nat.reduceEqDiff, Nat.reduceAdd, Nat.reduceMul, Nat.reduceSub, Nat.reduceLeDiff, Nat.reduceLT, Int.reduceEq, Int.reduceLT, Int.reduceLE, Int.reduceAdd, Int.reduceSub, Int.reduceNeg, reduceCtorEq, Nat.reduceShiftRight, Nat.reduceAnd, Nat.reduceBNe, g5, g6, g7, Int.ofNat_lt, c1]
      exact settled_bool hx ha.symm
  · simp only [go_sem, ↓reduceIte, Nat.reduceMod, Nat.reduceEqDiff, Nat.reduceAdd, Nat.reduceMul, Nat.reduceSub, Nat.reduceLeDiff, Nat.reduceLT, Int.reduceEq, Int.reduceLT, Int.reduceLE, Int.reduceAdd, Int.reduceSub, Int.reduceNeg, reduceCtorEq, Nat.reduceShiftRight, Nat.reduceAnd, Nat.reduceBNe]
    rfl
/-! ### By the document -/
/-- The same, by the document: of a node. -/
def nodeOkR (t : T) : Bool :=
  if t.op = 1 then zIs t.n && (decide (t.name = []) && (decide (t.sort = 2) && decide (t.kids = [])))
  else if t.op = 2 ∨ t.op = 3 then plainB t && (decide (t.sort = 1) && decide (t.kids = []))
  else if t.op = 4 then (!t.n.neg && decide (t.n.mag = [])) && (symOk t.name && (decide (t.kids.length ≤ 3) && sortB t.sort))
  else madeB t.op && (plainB t && (kidsOk t.op t.kids.length && (decide (checkE t.op t.kids = 0) && decide (t.sort = resSort t.op t.kids))))
mutual
def isR : T → Bool
  | .mk op n name sort ks => isRs ks && nodeOkR (.mk op n name sort ks)
def isRs : List T → Bool
  | [] => true
  | t :: l => isR t && isRs l
end
theorem isR_eq (t : T) : isR t = (isRs t.kids && nodeOkR t) := by cases t; rfl
theorem isRs_all (l : List T) : isRs l = l.all isR := by
  induction l with
  | nil => rfl
  | cons a l ih => simp [isRs, ih]
theorem zero_is (z : Z) : (zIs z && decide (zsign z = 0)) = (!z.neg && decide (z.mag = [])) := by
  obtain ⟨n, m⟩ := z
  cases m with
  | nil => cases n <;> simp [zIs, zsign, zh, natIs_nil]
  | cons a m =>
    cases h : zIs ⟨n, a :: m⟩
    · simp
    · have e : zsign ⟨n, a :: m⟩ ≠ 0 := by unfold zsign zh; rw [if_pos h]; cases n <;> simp
      simp [e]
end Go.Proofs.YtjnejkganejdbaaGreat
namespace Go.Proofs.YtjnejkganejdbaaGreat
open Go Go.Vm
set_option linter.unusedVariables false
set_option linter.unusedSimpArgs false
theorem isRs_false {l : List T} {i : Nat} (h : i < l.length) (hp : isR l[i] = false) : isRs l = false := by rw [isRs_all]; exact allT_false h hp
theorem is_step (t : T) (h4 : t.size ≤ 400) (htm : t.tame) (s : St) (cs : List AV) (hr : Room s) (hn : s.n.val + t.size ≤ 50000) (h : RT6 s cs t) (ih : ∀ u : T, u.size < t.size → u.tame → ∀ (s' : St) (cs : List AV), Room s' → s'.n.val + u.size ≤ 50000 → RT6 s' cs u → CA F.ref10_is [.agg cs] s' = .ok (.bool (isR u)) s') : CA F.ref10_is [.agg cs] s = .ok (.bool (isR t)) s := by
  have hnm := T.tame_name htm
  have h' := h
  obtain ⟨ng, mg, kv, rfl, hz, hk⟩ := h.ex
  have hzn := hz.neg
  have hzm := hz.mag
  have hsz := T.size_kids t
  have hle := T.length_le t.kids
  have hm := hk.most
  obtain ⟨L, hL⟩ : ∃ L : List AO, L = [.cells [.int .i64 t.op, ng, mg, .str t.name, .int .i64 t.sort, kv]] := ⟨_, rfl⟩
  have hlen : L.length = 1 := by rw [hL]; rfl
  have hx1 := ext_Sx (s := s) (l := L) hr (by omega)
  have hr1 := hr.Sx (l := L) (by omega) (by omega)
  have hn1 := Sx_n (s := s) (l := L) hr (by omega)
  obtain ⟨M, hM⟩ : ∃ M : List AO, M = .cells [.int .i64 t.op, ng, mg, .str t.name, .int .i64 t.sort, kv] :: .dead :: .dead :: .dead :: .dead :: .dead :: .dead :: .dead :: .dead :: .dead :: .dead :: .dead :: .dead :: .dead :: .dead :: .dead :: .dead :: .dead :: .dead :: .dead :: .dead :: .dead :: .dead :: .dead :: .dead :: .dead :: .dead :: .dead :: .dead :: .dead :: .dead :: .dead :: .dead :: .dead :: .dead :: .dead :: .dead :: .dead :: .dead :: .dead :: .dead :: .dead :: .dead :: .dead :: [] := ⟨_, rfl⟩
  have hlenM : M.length = 44 := by rw [hM]; rfl
  have hx2 := ext_Sx (s := s) (l := M) hr (by omega)
  have hr2 := hr.Sx (l := M) (by omega) (by omega)
  have hn2 := Sx_n (s := s) (l := M) hr (by omega)
  have f1 := ref1_Is_ok (Sx s L) ng mg t.n hr1 (hz.x hx1)
  have f2 := ref1_Sign_ok (Sx s L) ng mg t.n hr1 (by omega) (hz.x hx1)
  have f3 := ref_Symbol_ok (Sx s L) t.name (by omega)
  have f4 := args_ok (Sx s M) t.op t.kids.length
  have hnb : ∀ i (h : i < t.kids.length), NumB t.kids[i] := fun i hi => numB_of (T.tame_at (T.tame_kids htm).2 hi)
  have f5 := fun d3 : kidsOk t.op t.kids.length = true => ref_check_ok (Sx s M) kv t.kids t.op hr2 (by omega) (fun e => kids12 (by rw [← e]; exact d3)) (fun _ => kids1 d3) (fun ho => kids2 ho d3) hnb (hk.x hx2)
  have f6 := fun d3 : kidsOk t.op t.kids.length = true => result_ok (Sx s M) kv t.kids t.op (fun e => by have := kids12 (l := t.kids) (by rw [← e]; exact d3); omega) (hk.x hx2)
  have ihk : ∀ {i : Nat} (hi : i < t.kids.length) (cs : List AV), RT6 s cs t.kids[i] → CA F.ref10_is [.agg cs] (Sx s L) = .ok (.bool (isR t.kids[i])) (Sx s L) := fun {i} hi cs hc => by
    have hs2 := T.size_at hi
    exact ih t.kids[i] (by omega) (T.tame_at (T.tame_kids htm).2 hi) (Sx s L) cs hr1 (by omega) (hc.x hx1)
  have hz0 := zero_is t.n
  rw [hL] at f1 f2 f3 ihk hx1
  rw [hM] at f4 hx2
  rw [isR_eq]
  refine fn_of code_ref10_is (by simp) ?_
  simp only [go_sem, ↓reduceIte, Nat.reduceMod, Nat.reduceEqDiff, Nat.reduceAdd, Nat.reduceMul, Nat.reduceSub, Nat.reduceLeDiff, Nat.reduceLT, Int.reduceEq, Int.reduceLT, Int.reduceLE, Int.reduceAdd, Int.reduceSub, Int.reduceNeg, reduceCtorEq, Nat.reduceShiftRight, Nat.reduceAnd, Nat.reduceBNe, hr]
  refine W_inv (fun k f τ => ∃ (i : Nat), τ = Sx s [.cells [.int .i64 t.op, ng, mg, .str t.name, .int .i64 t.sort, kv]] ∧ k = t.kids.length - i ∧ i ≤ t.kids.length ∧ (t.kids.take i).all isR = true ∧ (vv 1).get f = .ptr (nm s 0) 0 ∧ (vv 3).get f = .int .i64 (i : Int)) ?_ ⟨0, rfl, rfl, by omega, by simp, ?_⟩
  · rintro k f τ ⟨i, rfl, rfl, hi, ha, g1, g3⟩
    by_cases c1 : i < t.kids.length
    · obtain ⟨cs, hat⟩ := hk.at c1
      have fi := ihk c1 cs hat.t6
      cases d1 : isR t.kids[i]
      · simp only [go_sem, ↓reduceIte, Nat.reduceMod, Nat.reduceEqDiff, Nat.reduceAdd, Nat.reduceMul, Nat.reduceSub, Nat.reduceLeDiff, Nat.reduceLT, Int.reduceEq, Int.reduceLT, Int.reduceLE, Int.reduceAdd, Int.reduceSub, Int.reduceNeg, reduceCtorEq, Nat.reduceShiftRight, Nat.reduceAnd, Nat.reduceBNe, g1, g3, hr, hk.vlen, Int.ofNat_lt, c1, hk.ia c1, hat.ld, fi, d1, Bool.not_false]
        exact settled_bool (ext_Sx hr (by simp)) (by rw [isRs_false c1 d1]; rfl)
      · simp only [go_sem, ↓reduceIte, Nat.reduceMod, Nat.reduceEqDiff, Nat.reduceAdd, Nat.reduceMul, Nat.reduceSub, Nat.reduceLeDiff, Nat.reduceLT, Int.reduceEq, Int.reduceLT, Int.reduceLE, Int.reduceAdd, Int.reduceSub, Int.reduceNeg, reduceCtorEq, Nat.reduceShiftRight, Nat.reduceAnd, Nat.reduceBNe, g1, g3, hr, hk.vlen, Int.ofNat_lt, c1, hk.ia c1, hat.ld, fi, d1, Bool.not_true]
        refine ⟨t.kids.length - (i + 1), by omega, i + 1, rfl, by omega, ?_, ?_⟩
        · rw [allT_take c1, ha, d1]; rfl
        · rw [wrap_i64 (by omega) (by omega)]; congr 1
    · have e : i = t.kids.length := by omega
      subst e
      rw [List.take_length, ← isRs_all] at ha
      rw [ha, Bool.true_and]
      clear ih ihk
      simp only [go_sem, ↓reduceIte, Nat.reduceMod, Nat.reduceEqDiff, Nat.reduceAdd, Nat.reduceMul, Nat.reduceSub, Nat.reduceLeDiff, Nat.reduceLT, Int.reduceEq, Int.reduceLT, Int.reduceLE, Int.reduceAdd, Int.reduceSub, Int.reduceNeg, reduceCtorEq, Nat.reduceShiftRight, Nat.reduceAnd, Nat.reduceBNe, g1, g3, hr, hk.vlen, Int.ofNat_lt, c1]
      have hpl : plainB t = ((zIs t.n && decide (zsign t.n = 0)) && decide (t.name = [])) := by unfold plainB; rw [hz0]
      by_cases c1 : t.op = 1
      · have e : nodeOkR t = (zIs t.n && (decide (t.name = []) && (decide (t.sort = 2) && decide (t.kids = [])))) := by simp [nodeOkR, c1]
        rw [e]
        rw [c1] at f1 f2 f3 hx1 ⊢
        cases d1 : zIs t.n
        · simp only [go_sem, ↓reduceIte, Nat.reduceMod, Nat.reduceEqDiff, Nat.reduceAdd, Nat.reduceMul, Nat.reduceSub, Nat.reduceLeDiff, Nat.reduceLT, Int.reduceEq, Int.reduceLT, Int.reduceLE, Int.reduceAdd, Int.reduceSub, Int.reduceNeg, reduceCtorEq, Nat.reduceShiftRight, Nat.reduceAnd, Nat.reduceBNe, g1, hr, f1, f2, d1]
          exact settled_bool (ext_Sx hr (by simp)) (by simp)
        · by_cases d2 : t.name = []
          · by_cases d3 : t.sort = 2
            · rw [d2, d3] at f1 f2 ⊢
              simp only [go_sem, ↓reduceIte, Nat.reduceMod, Nat.reduceEqDiff, Nat.reduceAdd, Nat.reduceMul, Nat.reduceSub, Nat.reduceLeDiff, Nat.reduceLT, Int.reduceEq, Int.reduceLT, Int.reduceLE, Int.reduceAdd, Int.reduceSub, Int.reduceNeg, reduceCtorEq, Nat.reduceShiftRight, Nat.reduceAnd, Nat.reduceBNe, g1, hr, f1, f2, d1, hk.vlen, len0]
              exact settled_bool (ext_Sx hr (by simp)) (by simp)
            · rw [d2] at f1 f2 ⊢
              simp only [go_sem, ↓reduceIte, Nat.reduceMod, Nat.reduceEqDiff, Nat.reduceAdd, Nat.reduceMul, Nat.reduceSub, Nat.reduceLeDiff, Nat.reduceLT, Int.reduceEq, Int.reduceLT, Int.reduceLE, Int.reduceAdd, Int.reduceSub, Int.reduceNeg, reduceCtorEq, Nat.reduceShiftRight, Nat.reduceAnd, Nat.reduceBNe, g1, hr, f1, f2, d1, d3]
              exact settled_bool (ext_Sx hr (by simp)) (by simp)
          · simp only [go_sem, ↓reduceIte, Nat.reduceMod, Nat.reduceEqDiff, Nat.reduceAdd, Nat.reduceMul, Nat.reduceSub, Nat.reduceLeDiff, Nat.reduceLT, Int.reduceEq, Int.reduceLT, Int.reduceLE, Int.reduceAdd, Int.reduceSub, Int.reduceNeg, reduceCtorEq, Nat.reduceShiftRight, Nat.reduceAnd, Nat.reduceBNe, g1, hr, f1, f2, d1, d2]
            exact settled_bool (ext_Sx hr (by simp)) (by simp)
      by_cases c2 : t.op = 2 ∨ t.op = 3
      · have e : nodeOkR t = (plainB t && (decide (t.sort = 1) && decide (t.kids = []))) := by simp only [nodeOkR]; rw [if_neg c1, if_pos c2]
        rw [e, hpl]
        rcases c2 with c3 | c3
        all_goals
          rw [c3] at f1 f2 f3 hx1 ⊢
          cases d1 : zIs t.n
          · simp only [go_sem, ↓reduceIte, Nat.reduceMod, Nat.reduceEqDiff, Nat.reduceAdd, Nat.reduceMul, Nat.reduceSub, Nat.reduceLeDiff, Nat.reduceLT, Int.reduceEq, Int.reduceLT, Int.reduceLE, Int.reduceAdd, Int.reduceSub, Int.reduceNeg, reduceCtorEq, Nat.reduceShiftRight, Nat.reduceAnd, Nat.reduceBNe, g1, hr, f1, f2, d1]
            exact settled_bool (ext_Sx hr (by simp)) (by simp)
          by_cases d0 : zsign t.n = 0
          · by_cases d2 : t.name = []
            · by_cases d3 : t.sort = 1
              · rw [d2, d3] at f1 f2 ⊢
                simp only [go_sem, ↓reduceIte, Nat.reduceMod, Nat.reduceEqDiff, Nat.reduceAdd, Nat.reduceMul, Nat.reduceSub, Nat.reduceLeDiff, Nat.reduceLT, Int.reduceEq, Int.reduceLT, Int.reduceLE, Int.reduceAdd, Int.reduceSub, Int.reduceNeg, reduceCtorEq, Nat.reduceShiftRight, Nat.reduceAnd, Nat.reduceBNe, g1, hr, f1, f2, d1, d0, hk.vlen, len0]
                exact settled_bool (ext_Sx hr (by simp)) (by simp)
              · rw [d2] at f1 f2 ⊢
                simp only [go_sem, ↓reduceIte, Nat.reduceMod, Nat.reduceEqDiff, Nat.reduceAdd, Nat.reduceMul, Nat.reduceSub, Nat.reduceLeDiff, Nat.reduceLT, Int.reduceEq, Int.reduceLT, Int.reduceLE, Int.reduceAdd, Int.reduceSub, Int.reduceNeg, reduceCtorEq, Nat.reduceShiftRight, Nat.reduceAnd, Nat.reduceBNe, g1, hr, f1, f2, d1, d0, d3]
                exact settled_bool (ext_Sx hr (by simp)) (by simp)
            · simp only [go_sem, ↓reduceIte, Nat.reduceMod, Nat.reduceEqDiff, Nat.reduceAdd, Nat.reduceMul, Nat.reduceSub, Nat.reduceLeDiff, Nat.reduceLT, Int.reduceEq, Int.reduceLT, Int.reduceLE, Int.reduceAdd, Int.reduceSub, Int.reduceNeg, reduceCtorEq, Nat.reduceShiftRight, Nat.reduceAnd, Nat.reduceBNe, g1, hr, f1, f2, d1, d0, d2]
              exact settled_bool (ext_Sx hr (by simp)) (by simp)
          · simp only [go_sem, ↓reduceIte, Nat.reduceMod, Nat.reduceEqDiff, Nat.reduceAdd, Nat.reduceMul, Nat.reduceSub, Nat.reduceLeDiff, Nat.reduceLT, Int.reduceEq, Int.reduceLT, Int.reduceLE, Int.reduceAdd, Int.reduceSub, Int.reduceNeg, reduceCtorEq, Nat.reduceShiftRight, Nat.reduceAnd, Nat.reduceBNe, g1, hr, f1, f2, d1, d0]
            exact settled_bool (ext_Sx hr (by simp)) (by simp)
      have c2a : ¬ t.op = 2 := fun e => c2 (.inl e)
      have c2b : ¬ t.op = 3 := fun e => c2 (.inr e)
      by_cases c4 : t.op = 4
      · have e : nodeOkR t = ((zIs t.n && decide (zsign t.n = 0)) && (symOk t.name && (decide (t.kids.length ≤ 3) && sortB t.sort))) := by simp only [nodeOkR]; rw [if_neg c1, if_neg c2, if_pos c4, hz0]
        rw [e]
        rw [c4] at f1 f2 f3 hx1 ⊢
        cases d1 : zIs t.n
        · simp only [go_sem, ↓reduceIte, Nat.reduceMod, Nat.reduceEqDiff, Nat.reduceAdd, Nat.reduceMul, Nat.reduceSub, Nat.reduceLeDiff, Nat.reduceLT, Int.reduceEq, Int.reduceLT, Int.reduceLE, Int.reduceAdd, Int.reduceSub, Int.reduceNeg, reduceCtorEq, Nat.reduceShiftRight, Nat.reduceAnd, Nat.reduceBNe, g1, hr, f1, f2, d1]
          exact settled_bool (ext_Sx hr (by simp)) (by simp)
        by_cases d0 : zsign t.n = 0
        · cases d2 : symOk t.name
          · simp only [go_sem, ↓reduceIte, Nat.reduceMod, Nat.reduceEqDiff, Nat.reduceAdd, Nat.reduceMul, Nat.reduceSub, Nat.reduceLeDiff, Nat.reduceLT, Int.reduceEq, Int.reduceLT, Int.reduceLE, Int.reduceAdd, Int.reduceSub, Int.reduceNeg, reduceCtorEq, Nat.reduceShiftRight, Nat.reduceAnd, Nat.reduceBNe, g1, hr, f1, f2, d1, d0, f3, d2]
            exact settled_bool (ext_Sx hr (by simp)) (by simp)
          · by_cases d3 : t.kids.length ≤ 3
            · have d3' : (t.kids.length : Int) ≤ 3 := by omega
              by_cases d4 : t.sort = 1
              · rw [d4] at f1 f2 f3 ⊢
                simp only [go_sem, ↓reduceIte, Nat.reduceMod, Nat.reduceEqDiff, Nat.reduceAdd, Nat.reduceMul, Nat.reduceSub, Nat.reduceLeDiff, Nat.reduceLT, Int.reduceEq, Int.reduceLT, Int.reduceLE, Int.reduceAdd, Int.reduceSub, Int.reduceNeg, reduceCtorEq, Nat.reduceShiftRight, Nat.reduceAnd, Nat.reduceBNe, g1, hr, f1, f2, d1, d0, f3, d2, hk.vlen, d3']
                exact settled_bool (ext_Sx hr (by simp)) (by simp [d3, sortB])
              · simp only [go_sem, ↓reduceIte, Nat.reduceMod, Nat.reduceEqDiff, Nat.reduceAdd, Nat.reduceMul, Nat.reduceSub, Nat.reduceLeDiff, Nat.reduceLT, Int.reduceEq, Int.reduceLT, Int.reduceLE, Int.reduceAdd, Int.reduceSub, Int.reduceNeg, reduceCtorEq, Nat.reduceShiftRight, Nat.reduceAnd, Nat.reduceBNe, g1, hr, f1, f2, d1, d0, f3, d2, hk.vlen, d3', d4]
                exact settled_bool (ext_Sx hr (by simp)) (by simp [d3, sortB, d4])
            · have d3' : ¬ (t.kids.length : Int) ≤ 3 := by omega
              simp only [go_sem, ↓reduceIte, Nat.reduceMod, Nat.reduceEqDiff, Nat.reduceAdd, Nat.reduceMul, Nat.reduceSub, Nat.reduceLeDiff, Nat.reduceLT, Int.reduceEq, Int.reduceLT, Int.reduceLE, Int.reduceAdd, Int.reduceSub, Int.reduceNeg, reduceCtorEq, Nat.reduceShiftRight, Nat.reduceAnd, Nat.reduceBNe, g1, hr, f1, f2, d1, d0, f3, d2, hk.vlen, d3']
              exact settled_bool (ext_Sx hr (by simp)) (by simp [d3])
        · simp only [go_sem, ↓reduceIte, Nat.reduceMod, Nat.reduceEqDiff, Nat.reduceAdd, Nat.reduceMul, Nat.reduceSub, Nat.reduceLeDiff, Nat.reduceLT, Int.reduceEq, Int.reduceLT, Int.reduceLE, Int.reduceAdd, Int.reduceSub, Int.reduceNeg, reduceCtorEq, Nat.reduceShiftRight, Nat.reduceAnd, Nat.reduceBNe, g1, hr, f1, f2, d1, d0]
          exact settled_bool (ext_Sx hr (by simp)) (by simp)
      · have e : nodeOkR t = (madeB t.op && (plainB t && (kidsOk t.op t.kids.length && (decide (checkE t.op t.kids = 0) && decide (t.sort = resSort t.op t.kids))))) := by simp only [nodeOkR]; rw [if_neg c1, if_neg c2, if_neg c4]
        rw [e, hpl]
        cases d1 : zIs t.n
        · simp only [go_sem, ↓reduceIte, Nat.reduceMod, Nat.reduceEqDiff, Nat.reduceAdd, Nat.reduceMul, Nat.reduceSub, Nat.reduceLeDiff, Nat.reduceLT, Int.reduceEq, Int.reduceLT, Int.reduceLE, Int.reduceAdd, Int.reduceSub, Int.reduceNeg, reduceCtorEq, Nat.reduceShiftRight, Nat.reduceAnd, Nat.reduceBNe, g1, hr, f1, f2, d1, c1, c2a, c2b, c4]
          refine W_drawn hr _ (by simp) ?_
          simp only [go_sem, ↓reduceIte, Nat.reduceMod, Nat.reduceEqDiff, Nat.reduceAdd, Nat.reduceMul, Nat.reduceSub, Nat.reduceLeDiff, Nat.reduceLT, Int.reduceEq, Int.reduceLT, Int.reduceLE, Int.reduceAdd, Int.reduceSub, Int.reduceNeg, reduceCtorEq, Nat.reduceShiftRight, Nat.reduceAnd, Nat.reduceBNe, g1, hr]
          exact settled_bool (ext_Sx hr (by simp)) (by simp)
        by_cases d0 : zsign t.n = 0
        rotate_left
        · simp only [go_sem, ↓reduceIte, Nat.reduceMod, Nat.reduceEqDiff, Nat.reduceAdd, Nat.reduceMul, Nat.reduceSub, Nat.reduceLeDiff, Nat.reduceLT, Int.reduceEq, Int.reduceLT, Int.reduceLE, Int.reduceAdd, Int.reduceSub, Int.reduceNeg, reduceCtorEq, Nat.reduceShiftRight, Nat.reduceAnd, Nat.reduceBNe, g1, hr, f1, f2, d1, d0, c1, c2a, c2b, c4]
          refine W_drawn hr _ (by simp) ?_
          simp only [go_sem, ↓reduceIte, Nat.reduceMod, Nat.reduceEqDiff, Nat.reduceAdd, Nat.reduceMul, Nat.reduceSub, Nat.reduceLeDiff, Nat.reduceLT, Int.reduceEq, Int.reduceLT, Int.reduceLE, Int.reduceAdd, Int.reduceSub, Int.reduceNeg, reduceCtorEq, Nat.reduceShiftRight, Nat.reduceAnd, Nat.reduceBNe, g1, hr]
          exact settled_bool (ext_Sx hr (by simp)) (by simp [d0])
        simp only [go_sem, ↓reduceIte, Nat.reduceMod, Nat.reduceEqDiff, Nat.reduceAdd, Nat.reduceMul, Nat.reduceSub, Nat.reduceLeDiff, Nat.reduceLT, Int.reduceEq, Int.reduceLT, Int.reduceLE, Int.reduceAdd, Int.reduceSub, Int.reduceNeg, reduceCtorEq, Nat.reduceShiftRight, Nat.reduceAnd, Nat.reduceBNe, g1, hr, f1, f2, d1, d0, c1, c2a, c2b, c4]
        refine W_drawn hr _ (by simp) ?_
        clear f1 f2 f3
        by_cases d2 : t.name = []
        rotate_left
        · simp only [go_sem, ↓reduceIte, Nat.reduceMod, Nat.reduceEqDiff, Nat.reduceAdd, Nat.reduceMul, Nat.reduceSub, Nat.reduceLeDiff, Nat.reduceLT, Int.reduceEq, Int.reduceLT, Int.reduceLE, Int.reduceAdd, Int.reduceSub, Int.reduceNeg, reduceCtorEq, Nat.reduceShiftRight, Nat.reduceAnd, Nat.reduceBNe, g1, hr, d2]
          exact settled_bool (ext_Sx hr (by simp)) (by simp [d2])
        by_cases d5 : 5 ≤ t.op
        rotate_left
        · rw [d2]
          simp only [go_sem, ↓reduceIte, Nat.reduceMod, Nat.reduceEqDiff, Nat.reduceAdd, Nat.reduceMul, Nat.reduceSub, Nat.reduceLeDiff, Nat.reduceLT, Int.reduceEq, Int.reduceLT, Int.reduceLE, Int.reduceAdd, Int.reduceSub, Int.reduceNeg, reduceCtorEq, Nat.reduceShiftRight, Nat.reduceAnd, Nat.reduceBNe, g1, hr, d5]
          exact settled_bool (ext_Sx hr (by simp)) (by simp only [madeB, d5, d0, false_and, decide_false, Bool.false_and])
        by_cases d6 : t.op ≤ 22
        rotate_left
        · rw [d2]
          simp only [go_sem, ↓reduceIte, Nat.reduceMod, Nat.reduceEqDiff, Nat.reduceAdd, Nat.reduceMul, Nat.reduceSub, Nat.reduceLeDiff, Nat.reduceLT, Int.reduceEq, Int.reduceLT, Int.reduceLE, Int.reduceAdd, Int.reduceSub, Int.reduceNeg, reduceCtorEq, Nat.reduceShiftRight, Nat.reduceAnd, Nat.reduceBNe, g1, hr, d5, d6]
          exact settled_bool (ext_Sx hr (by simp)) (by simp only [madeB, d6, d0, and_false, decide_false, Bool.false_and])
        have hmade : madeB t.op = true := by simp [madeB, d5, d6]
        rw [hmade]
        cases d3 : kidsOk t.op t.kids.length
        · rw [d2] at f4 ⊢
          simp only [go_sem, ↓reduceIte, Nat.reduceMod, Nat.reduceEqDiff, Nat.reduceAdd, Nat.reduceMul, Nat.reduceSub, Nat.reduceLeDiff, Nat.reduceLT, Int.reduceEq, Int.reduceLT, Int.reduceLE, Int.reduceAdd, Int.reduceSub, Int.reduceNeg, reduceCtorEq, Nat.reduceShiftRight, Nat.reduceAnd, Nat.reduceBNe, g1, hr, d5, d6, hk.vlen, f4, d3]
          exact settled_bool (ext_Sx hr (by simp)) (by simp [d0])
        have f5 := f5 d3
        have f6 := f6 d3
        rw [hM] at f5 f6
        by_cases d4 : checkE t.op t.kids = 0
        · rw [d2] at f4 f5 f6 ⊢
          simp only [go_sem, ↓reduceIte, Nat.reduceMod, Nat.reduceEqDiff, Nat.reduceAdd, Nat.reduceMul, Nat.reduceSub, Nat.reduceLeDiff, Nat.reduceLT, Int.reduceEq, Int.reduceLT, Int.reduceLE, Int.reduceAdd, Int.reduceSub, Int.reduceNeg, reduceCtorEq, Nat.reduceShiftRight, Nat.reduceAnd, Nat.reduceBNe, g1, hr, d5, d6, hk.vlen, f4, d3, f5, d4, f6]
          exact settled_bool (ext_Sx hr (by simp)) (by simp [d0])
        · rw [d2] at f4 f5 f6 ⊢
          simp only [go_sem, ↓reduceIte, Nat.reduceMod, Nat.reduceEqDiff, Nat.reduceAdd, Nat.reduceMul, Nat.reduceSub, Nat.reduceLeDiff, Nat.reduceLT, Int.reduceEq, Int.reduceLT, Int.reduceLE, Int.reduceAdd, Int.reduceSub, Int.reduceNeg, reduceCtorEq, Nat.reduceShiftRight, Nat.reduceAnd, Nat.reduceBNe, g1, hr, d5, d6, hk.vlen, f4, d3, f5, d4]
          exact settled_bool (ext_Sx hr (by simp)) (by simp [d0])
  · simp only [go_sem, ↓reduceIte, Nat.reduceMod, Nat.reduceEqDiff, Nat.reduceAdd, Nat.reduceMul, Nat.reduceSub, Nat.reduceLeDiff, Nat.reduceLT, Int.reduceEq, Int.reduceLT, Int.reduceLE, Int.reduceAdd, Int.reduceSub, Int.reduceNeg, reduceCtorEq, Nat.reduceShiftRight, Nat.reduceAnd, Nat.reduceBNe]
    rfl
theorem is_ok : ∀ (n : Nat) (t : T), t.size ≤ n → t.size ≤ 400 → t.tame → ∀ (s : St) (cs : List AV), Room s → s.n.val + t.size ≤ 50000 → RT6 s cs t → CA F.ref10_is [.agg cs] s = .ok (.bool (isR t)) s := by
  intro n
  induction n with
  | zero => intro t h; have := T.size_kids t; omega
  | succ n ih => intro t hl h4 htm s cs hr hn h; exact is_step t h4 htm s cs hr hn h fun u hu htu s' cs' hr' hn' h' => ih u (by omega) (by omega) htu s' cs' hr' hn' h'
/-! ### Both ways say the same -/
theorem resSort_B {op : Int} {l : List T} (h : ∀ t ∈ l, sortB t.sort = true) (h12 : op = 12 → 1 < l.length) : sortB (resSort op l) = true := by
  unfold resSort
  split
  · rfl
  · split
    · rename_i e
      have h1 := h12 e
      rw [List.getElem?_eq_getElem h1]
      exact h _ (List.getElem_mem h1)
    · rfl
theorem isN_sort : ∀ (n : Nat) (t : T), t.size ≤ n → isN t = true → sortB t.sort = true := by
  intro n
  induction n with
  | zero => intro t h; have := T.size_kids t; omega
  | succ n ih =>
    intro t hl h
    rw [isN_eq, isNs_all, Bool.and_eq_true, List.all_eq_true] at h
    have hs := T.size_kids t
    have hk : ∀ u ∈ t.kids, sortB u.sort = true := by
      intro u hu
      obtain ⟨i, hi, rfl⟩ := List.getElem_of_mem hu
      have := T.size_at hi
      exact ih _ (by omega) (h.1 _ hu)
    have h2 := h.2
    unfold nodeOk at h2
    split at h2
    · simp only [Bool.and_eq_true, decide_eq_true_eq] at h2; rw [h2.2.2.1]; rfl
    · split at h2
      · simp only [Bool.and_eq_true, decide_eq_true_eq] at h2; rw [h2.2.1]; rfl
      · split at h2
        · simp only [Bool.and_eq_true, sigOk] at h2; exact h2.2.2.2.2.2
        · simp only [Bool.and_eq_true, decide_eq_true_eq] at h2
          rw [h2.2.2.2.2]
          exact resSort_B hk fun e => by have := kids12 (l := t.kids) (by rw [← e]; exact h2.2.2.1); omega
theorem nodeOkR_eq {t : T} (h4 : t.size ≤ 400) (hk : isNs t.kids = true) : nodeOkR t = nodeOk t := by
  have hs := T.size_kids t
  rw [isNs_all, List.all_eq_true] at hk
  unfold nodeOkR nodeOk
  split
  · rfl
  · split
    · rfl
    · split
      · have ha : (t.kids.map T.sort).all sortB = true := by
          rw [List.all_eq_true]
          intro x hx
          obtain ⟨u, hu, rfl⟩ := List.mem_map.mp hx
          exact isN_sort _ u (Nat.le_refl _) (hk u hu)
        simp only [sigOk, ha, List.length_map, Bool.true_and, Bool.and_assoc]
      · have e : checkE t.op t.kids = wrongE t.op t.kids := by
          unfold checkE
          rw [if_neg (by omega : ¬ 400 < min (1 + T.sizes t.kids) 401)]
          split <;> simp_all
        rw [e]
theorem isR_isN : ∀ (n : Nat) (t : T), t.size ≤ n → t.size ≤ 400 → isR t = isN t := by
  intro n
  induction n with
  | zero => intro t h; have := T.size_kids t; omega
  | succ n ih =>
    intro t hl h4
    have hs := T.size_kids t
    have e : isRs t.kids = isNs t.kids := by
      rw [isRs_all, isNs_all, Bool.eq_iff_iff, List.all_eq_true, List.all_eq_true]
      constructor
      · intro h u hu
        obtain ⟨i, hi, rfl⟩ := List.getElem_of_mem hu
        have := T.size_at hi
        rw [← ih _ (by omega) (by omega)]; exact h _ hu
      · intro h u hu
        obtain ⟨i, hi, rfl⟩ := List.getElem_of_mem hu
        have := T.size_at hi
        rw [ih _ (by omega) (by omega)]; exact h _ hu
    rw [isR_eq, isN_eq, e]
    cases h : isNs t.kids
    · rfl
    · rw [nodeOkR_eq h4 h]
theorem Is_ok (t : T) (htm : t.tame) (s : St) (cs : List AV) (hr : Room s) (hn : s.n.val ≤ 49000) (h : RT6 s cs t) : CA F.ref10_Is [.agg cs] s = .ok (.bool (isT t)) s := by
  have h' := h
  obtain ⟨ng, mg, kv, rfl, hz, hk⟩ := h.ex
  have hx1 := ext_Sx (s := s) (l := [.cells [.int .i64 t.op, ng, mg, .str t.name, .int .i64 t.sort, kv]]) hr (by simp)
  have hr1 := hr.Sx (l := [.cells [.int .i64 t.op, ng, mg, .str t.name, .int .i64 t.sort, kv]]) (by simp; omega) (by simp)
  have hn1 := Sx_n (s := s) (l := [.cells [.int .i64 t.op, ng, mg, .str t.name, .int .i64 t.sort, kv]]) hr (by simp)
  simp only [List.length_cons, List.length_nil] at hn1
  have f1 := Few_ok _ _ t hr1 (by omega) (h'.x hx1)
  unfold isT
  refine fn_of code_ref10_Is (by simp) ?_
  by_cases h4 : t.size ≤ 400
  · have f2 := is_ok _ t (Nat.le_refl _) h4 htm _ _ hr1 (by omega) (h'.x hx1)
    rw [isR_isN _ t (Nat.le_refl _) h4] at f2
    simp only [go_sem, ↓reduceIte, Nat.reduceMod, Nat.reduceEqDiff, Nat.reduceAdd, Nat.reduceMul, Nat.reduceSub, Nat.reduceLeDiff, Nat.reduceLT, Int.reduceEq, Int.reduceLT, Int.reduceLE, Int.reduceAdd, Int.reduceSub, Int.reduceNeg, reduceCtorEq, Nat.reduceShiftRight, Nat.reduceAnd, Nat.reduceBNe, hr, f1, f2, h4]
    exact settled_bool (ext_Sx hr (by simp)) (by simp)
  · simp only [go_sem, ↓reduceIte, Nat.reduceMod, Nat.reduceEqDiff, Nat.reduceAdd, Nat.reduceMul, Nat.reduceSub, Nat.reduceLeDiff, Nat.reduceLT, Int.reduceEq, Int.reduceLT, Int.reduceLE, Int.reduceAdd, Int.reduceSub, Int.reduceNeg, reduceCtorEq, Nat.reduceShiftRight, Nat.reduceAnd, Nat.reduceBNe, hr, f1, h4]
    exact settled_bool (ext_Sx hr (by simp)) (by simp [h4])
end Go.Proofs.YtjnejkganejdbaaGreat
namespace Go.Proofs.YtjnejkganejdbaaGreat
open Go Go.Vm
set_option linter.unusedVariables false
set_option linter.unusedSimpArgs false
theorem rt6_ov {s : St} {cs : List AV} {t : T} (h : RT6 s cs t) : ∀ c ∈ cs, Ov s.n.val c := by
  obtain ⟨ng, mg, kv, rfl, hz, hk⟩ := h.ex
  intro c hc
  simp only [List.mem_cons, List.not_mem_nil, or_false] at hc
  rcases hc with rfl | rfl | rfl | rfl | rfl | rfl
  · exact ov_int _ _ _
  · exact hz.ov.1
  · exact hz.ov.2
  · exact ov_str _ _
  · exact ov_int _ _ _
  · exact hk.sl.ov
theorem ts_row6 {s : St} {v : AV} {l : List T} (h : Ts s v l) {j : Nat} (hj : j < l.length * 6) : ∃ c, (rowOf s v)[j]? = some c ∧ Ov s.n.val c := by
  have hi : j / 6 < l.length := by omega
  obtain ⟨cs, rest, h1, h2, h3⟩ := (h.el (j / 6) hi).t6
  have h4 : j % 6 < cs.length := by omega
  refine ⟨cs[j % 6], ?_, rt6_ov h3 _ (List.getElem_mem h4)⟩
  have := congrArg (fun l => l[j % 6]?) h1
  simp only [List.getElem?_drop] at this
  rw [show j / 6 * 6 + j % 6 = j by omega, List.getElem?_append_left h4, List.getElem?_eq_getElem h4] at this
  exact this
theorem ts_row_len {s : St} {v : AV} {l : List T} (h : Ts s v l) : l.length * 6 ≤ (rowOf s v).length := by
  rcases Nat.eq_zero_or_pos l.length with h0 | h0
  · omega
  · obtain ⟨c, hc, _⟩ := ts_row6 h (j := l.length * 6 - 1) (by omega)
    have := (List.getElem?_eq_some_iff.mp hc).1
    omega
theorem ts_row_ov {s : St} {v : AV} {l : List T} (h : Ts s v l) : ∀ c ∈ (rowOf s v).take (l.length * 6), Ov s.n.val c := by
  intro c hc
  obtain ⟨j, hj, rfl⟩ := List.getElem_of_mem hc
  rw [List.length_take] at hj
  obtain ⟨c, h1, h2⟩ := ts_row6 h (j := j) (by omega)
  rw [List.getElem?_eq_getElem (by omega)] at h1
  rw [List.getElem_take]
  cases h1
  exact h2
theorem ts_rows {s : St} {v : AV} {l : List T} (h : Ts s v l) (cap : Nat) (ex : Bool) : Ts s (.ts ((rowOf s v).take (l.length * 6)) l.length cap ex) l := by
  refine ⟨.ts _ _ _ _ h.most (ts_row_ov h), rfl, fun i hi => ?_⟩
  obtain ⟨cs, rest, h1, h2, h3⟩ := (h.el i hi).t6
  show RT s (((rowOf s v).take (l.length * 6)).drop (i * 6)) l[i]
  rw [List.drop_take, h1, List.take_append, List.take_of_length_le (by omega)]
  exact h3.rt _
theorem ts_nil (s : St) : Ts s .nils [] := ⟨.nils, rfl, fun i h => by simp at h⟩
theorem clone_ts_ok (s : St) (v : AV) (l : List T) (hl : l.length ≤ 1000000) (hv : Ts s v l) : ∃ r, Ts s r l ∧ (∀ s', Ts s' v l → rowOf s' v = rowOf s v → Ts s' r l) ∧ ∀ σ, Ext s σ → Room σ → CA F.slices_Clone_api_Term_api_Term [v] σ = .ok r σ := by
  by_cases hn : v = .nils
  · subst hn
    refine ⟨.nils, hv, fun s' h _ => h, fun σ hxs hr => ?_⟩
    refine fn_of code_slices_Clone_api_Term_api_Term (by simp) ?_
    simp only [go_sem, ↓reduceIte, Nat.reduceMod, Nat.reduceEqDiff, Nat.reduceAdd, Nat.reduceMul, Nat.reduceSub, Nat.reduceLeDiff, Nat.reduceLT, Int.reduceEq, Int.reduceLT, Int.reduceLE, Int.reduceAdd, Int.reduceSub, Int.reduceNeg, reduceCtorEq, Nat.reduceShiftRight, Nat.reduceAnd, Nat.reduceBNe]
    exact settled_ov (Ext.refl σ) (ov_nils _)
  · by_cases h0 : lenOf v = 0
    · have hl0 : l = [] := List.eq_nil_of_length_eq_zero (by rw [← hv.len]; exact h0)
      subst hl0
      refine ⟨.ts [] 0 0 false, ⟨.ts _ _ _ _ (by simp) (by simp), rfl, fun i h => by simp at h⟩, fun s' _ _ => ⟨.ts _ _ _ _ (by simp) (by simp), rfl, fun i h => by simp at h⟩, fun σ hxs hr => ?_⟩
      have hv := hv.x hxs
      refine fn_of code_slices_Clone_api_Term_api_Term (by simp) ?_
      have hx := ext_Sx (s := σ) (l := [.cells []]) hr (by simp)
      simp only [go_sem, ↓reduceIte, Nat.reduceMod, Nat.reduceEqDiff, Nat.reduceAdd, Nat.reduceMul, Nat.reduceSub, Nat.reduceLeDiff, Nat.reduceLT, Int.reduceEq, Int.reduceLT, Int.reduceLE, Int.reduceAdd, Int.reduceSub, Int.reduceNeg, reduceCtorEq, Nat.reduceShiftRight, Nat.reduceAnd, Nat.reduceBNe, hr, vnileq_sl hv.sl hn, vapp_lit0 (i := 0) (L := [.cells []]) hr (by simp) rfl (hv.sl.ext hx) (by rw [rowOf_ext hx hv.sl, h0]; simp) h0]
      exact settled_fz hx (fz_own hr (by simp) rfl (by simp))
    · refine ⟨.ts ((rowOf s v).take (l.length * 6)) l.length l.length false, ts_rows hv _ _, fun s' h e => by rw [← e]; exact ts_rows h _ _, fun σ hxs hr => ?_⟩
      rw [← rowOf_ext hxs hv.sl]
      have hv := hv.x hxs
      refine fn_of code_slices_Clone_api_Term_api_Term (by simp) ?_
      have hx := ext_Sx (s := σ) (l := [.cells []]) hr (by simp)
      have hrow := ts_row_len hv
      simp only [go_sem, ↓reduceIte, Nat.reduceMod, Nat.reduceEqDiff, Nat.reduceAdd, Nat.reduceMul, Nat.reduceSub, Nat.reduceLeDiff, Nat.reduceLT, Int.reduceEq, Int.reduceLT, Int.reduceLE, Int.reduceAdd, Int.reduceSub, Int.reduceNeg, reduceCtorEq, Nat.reduceShiftRight, Nat.reduceAnd, Nat.reduceBNe, hr, vnileq_sl hv.sl hn, vapp_lit (sz := 6) (bytes := 88) (i := 0) (L := [.cells []]) hr (by simp) rfl (hv.sl.ext hx) (by rw [rowOf_ext hx hv.sl, hv.len]; omega) (by rw [hv.len]; unfold limit; omega) h0, rowOf_ext hx hv.sl, hv.len]
      have hf := fz_own (s := σ) (L := [.cells [], .cells ((rowOf σ v).take (l.length * 6))]) hr (by simp) (i := 1) (o := 0) (len := l.length) (cap := l.length) (ex := 6) rfl (ts_row_ov hv)
      exact settled_fz (ext_Sx hr (by simp)) hf
/-- No term. -/
def zeroT : T := .mk 0 ⟨false, []⟩ [] 0 []
abbrev zeroC : List AV := [.int .i64 0, .bool false, .nils, .str [], .int .i64 0, .nils]
theorem zero_rep (s : St) : RT6 s zeroC zeroT := ⟨.bool false, .nils, .nils, rfl, ⟨rfl, nats_nil s⟩, ts_nil s⟩
theorem ov_res {n : Nat} {cs : List AV} (h : ∀ c ∈ cs, Ov n c) (e : Int) : Ov n (.tup [.agg cs, .int .i64 e]) := ov_tup (by intro c hc; simp at hc; rcases hc with rfl | rfl; exact ov_agg h; exact ov_int _ _ _)
theorem small_ok (s : St) (cs : List AV) (t : T) (hr : Room s) (hn : s.n.val ≤ 50000) (h : RT6 s cs t) : CA F.term_small [.agg cs] s = .ok (.tup [.agg (if 400 < t.size then zeroC else cs), .int .i64 (if 400 < t.size then 11 else 0)]) s := by
  have h' := h
  obtain ⟨ng, mg, kv, rfl, hz, hk⟩ := h.ex
  obtain ⟨L, hL⟩ : ∃ L : List AO, L = [.cells [.int .i64 t.op, ng, mg, .str t.name, .int .i64 t.sort, kv], .cells zeroC] := ⟨_, rfl⟩
  have hlen : L.length = 2 := by rw [hL]; rfl
  have hx1 := ext_Sx (s := s) (l := L) hr (by omega)
  have hr1 := hr.Sx (l := L) (by omega) (by omega)
  have hn1 := Sx_n (s := s) (l := L) hr (by omega)
  have f1 := Count_ok (Sx s L) _ t hr1 (by omega) (h'.x hx1)
  rw [hL] at f1
  refine fn_of code_term_small (by simp) ?_
  by_cases c : 400 < t.size
  · have c' : (400 : Int) < min 401 (t.size : Int) := by omega
    rw [if_pos c, if_pos c]
    simp only [go_sem, ↓reduceIte, Nat.reduceMod, Nat.reduceEqDiff, Nat.reduceAdd, Nat.reduceMul, Nat.reduceSub, Nat.reduceLeDiff, Nat.reduceLT, Int.reduceEq, Int.reduceLT, Int.reduceLE, Int.reduceAdd, Int.reduceSub, Int.reduceNeg, reduceCtorEq, Nat.reduceShiftRight, Nat.reduceAnd, Nat.reduceBNe, hr, f1, c']
    exact settled_ov (ext_Sx hr (by simp)) (ov_res (rt6_ov (zero_rep s)) 11)
  · have c' : ¬ (400 : Int) < min 401 (t.size : Int) := by omega
    rw [if_neg c, if_neg c]
    simp only [go_sem, ↓reduceIte, Nat.reduceMod, Nat.reduceEqDiff, Nat.reduceAdd, Nat.reduceMul, Nat.reduceSub, Nat.reduceLeDiff, Nat.reduceLT, Int.reduceEq, Int.reduceLT, Int.reduceLE, Int.reduceAdd, Int.reduceSub, Int.reduceNeg, reduceCtorEq, Nat.reduceShiftRight, Nat.reduceAnd, Nat.reduceBNe, hr, f1, c', hz.one, hk.one]
    exact settled_ov (ext_Sx hr (by simp)) (ov_res (rt6_ov h') 0)
end Go.Proofs.YtjnejkganejdbaaGreat
namespace Go.Vm
theorem T.ext' {t u : T} (h1 : t.op = u.op) (h2 : t.n = u.n) (h3 : t.name = u.name) (h4 : t.sort = u.sort) (h5 : t.kids = u.kids) : t = u := by cases t; cases u; simp_all [T.op, T.n, T.name, T.sort, T.kids]
end Go.Vm
namespace Go.Proofs.YtjnejkganejdbaaGreat
open Go Go.Vm
set_option linter.unusedVariables false
set_option linter.unusedSimpArgs false
mutual
/-- Are two terms the same? -/
def sameT : T → T → Bool
  | .mk o n a s ks, .mk o' n' a' s' ks' => decide (o = o') && (decide (n = n') && (decide (a = a') && (decide (s = s') && sameTs ks ks')))
def sameTs : List T → List T → Bool
  | [], [] => true
  | t :: l, u :: m => sameT t u && sameTs l m
  | _, _ => false
end
theorem sameT_eq (t u : T) : sameT t u = (decide (t.op = u.op) && (decide (t.n = u.n) && (decide (t.name = u.name) && (decide (t.sort = u.sort) && sameTs t.kids u.kids)))) := by cases t; cases u; rfl
theorem sameTs_len : ∀ (l m : List T), l.length ≠ m.length → sameTs l m = false
  | [], [], h => absurd rfl h
  | [], _ :: _, _ => rfl
  | _ :: _, [], _ => rfl
  | t :: l, u :: m, h => by rw [sameTs, sameTs_len l m (by simpa using h), Bool.and_false]
theorem sameTs_at : ∀ (l m : List T) (i : Nat) (h1 : i < l.length) (h2 : i < m.length), sameT l[i] m[i] = false → sameTs l m = false
  | t :: l, u :: m, 0, _, _, h => by rw [sameTs]; rw [List.getElem_cons_zero, List.getElem_cons_zero] at h; rw [h, Bool.false_and]
  | t :: l, u :: m, i + 1, h1, h2, h => by rw [sameTs, sameTs_at l m i (by simpa using h1) (by simpa using h2) (by simpa using h), Bool.and_false]
theorem sameTs_all : ∀ (l m : List T), l.length = m.length → (∀ i (h1 : i < l.length) (h2 : i < m.length), sameT l[i] m[i] = true) → sameTs l m = true
  | [], [], _, _ => rfl
  | t :: l, u :: m, h, k => by
    rw [sameTs, Bool.and_eq_true]
    exact ⟨k 0 (by simp) (by simp), sameTs_all l m (by simpa using h) fun i h1 h2 => k (i + 1) (by simpa using h1) (by simpa using h2)⟩
theorem sameT_self : ∀ (n : Nat) (t : T), t.size ≤ n → sameT t t = true := by
  intro n
  induction n with
  | zero => intro t h; have := T.size_kids t; omega
  | succ n ih =>
    intro t h
    rw [sameT_eq]
    have hs := T.size_kids t
    rw [sameTs_all _ _ rfl fun i h1 h2 => ih _ (by have := T.size_at h1; omega)]
    simp
theorem same_ok : ∀ (n : Nat) (t u : T), t.size ≤ n → t.tame → ∀ (s : St) (cs ds : List AV), Room s → s.n.val + 14 * t.size + 9000 ≤ 50000 → RT6 s cs t → RT6 s ds u → CA F.ref10_Same [.agg cs, .agg ds] s = .ok (.bool (sameT t u)) s := by
  intro n
  induction n with
  | zero => intro t u h; have := T.size_kids t; omega
  | succ n ih =>
    intro t u hln htm s cs ds hr hn h h2
    obtain ⟨ng, mg, kv, rfl, hz, hk⟩ := h.ex
    obtain ⟨ng2, mg2, kv2, rfl, hz2, hk2⟩ := h2.ex
    have hsz := T.size_kids t
    have hle := T.length_le t.kids
    have hm := hk.most
    have hmg := (T.tame_kids htm).1
    obtain ⟨L, hL⟩ : ∃ L : List AO, L = [.cells [.int .i64 t.op, ng, mg, .str t.name, .int .i64 t.sort, kv], .cells [.int .i64 u.op, ng2, mg2, .str u.name, .int .i64 u.sort, kv2]] := ⟨_, rfl⟩
    have hlen : L.length = 2 := by rw [hL]; rfl
    have hx1 := ext_Sx (s := s) (l := L) hr (by omega)
    have hr1 := hr.Sx (l := L) (by omega) (by omega)
    have hn1 := Sx_n (s := s) (l := L) hr (by omega)
    have f1 := equal_ok (Sx s L) ng mg ng2 mg2 t.n u.n hr1 (by omega) (hz.x hx1) (hz2.x hx1)
    have v0 := nm_val hr (k := 0) (by omega)
    have v1 := nm_val hr (k := 1) (by omega)
    have q1 := Sx_obj? (s := s) (l := L) hr (by omega) (i := 0) (by rw [hL]; rfl)
    have q2 := Sx_obj? (s := s) (l := L) hr (by omega) (i := 1) (by rw [hL]; rfl)
    rw [hL] at f1
    rw [sameT_eq]
    by_cases d1 : t.op = u.op
    rotate_left
    · refine fn_of code_ref10_Same (by simp) ?_
      simp only [go_sem, ↓reduceIte, Nat.reduceMod, Nat.reduceEqDiff, Nat.reduceAdd, Nat.reduceMul, Nat.reduceSub, Nat.reduceLeDiff, Nat.reduceLT, Int.reduceEq, Int.reduceLT, Int.reduceLE, Int.reduceAdd, Int.reduceSub, Int.reduceNeg, reduceCtorEq, Nat.reduceShiftRight, Nat.reduceAnd, Nat.reduceBNe, hr, ne_eq, d1, not_false_eq_true]
      exact settled_bool (ext_Sx hr (by simp)) (by simp)
    by_cases d2 : t.n = u.n
    rotate_left
    · rw [d1] at f1 ⊢
      refine fn_of code_ref10_Same (by simp) ?_
      simp only [go_sem, ↓reduceIte, Nat.reduceMod, Nat.reduceEqDiff, Nat.reduceAdd, Nat.reduceMul, Nat.reduceSub, Nat.reduceLeDiff, Nat.reduceLT, Int.reduceEq, Int.reduceLT, Int.reduceLE, Int.reduceAdd, Int.reduceSub, Int.reduceNeg, reduceCtorEq, Nat.reduceShiftRight, Nat.reduceAnd, Nat.reduceBNe, hr, ne_eq, not_true_eq_false, f1, d2, decide_false, Bool.not_false]
      exact settled_bool (ext_Sx hr (by simp)) (by simp)
    by_cases d3 : t.name = u.name
    rotate_left
    · rw [d1] at f1 ⊢
      refine fn_of code_ref10_Same (by simp) ?_
      simp only [go_sem, ↓reduceIte, Nat.reduceMod, Nat.reduceEqDiff, Nat.reduceAdd, Nat.reduceMul, Nat.reduceSub, Nat.reduceLeDiff, Nat.reduceLT, Int.reduceEq, Int.reduceLT, Int.reduceLE, Int.reduceAdd, Int.reduceSub, Int.reduceNeg, reduceCtorEq, Nat.reduceShiftRight, Nat.reduceAnd, Nat.reduceBNe, hr, ne_eq, not_true_eq_false, f1, d2, decide_true, Bool.not_true, d3, not_false_eq_true]
      exact settled_bool (ext_Sx hr (by simp)) (by simp)
    by_cases d4 : t.sort = u.sort
    rotate_left
    · rw [d1, d3] at f1 ⊢
      refine fn_of code_ref10_Same (by simp) ?_
      simp only [go_sem, ↓reduceIte, Nat.reduceMod, Nat.reduceEqDiff, Nat.reduceAdd, Nat.reduceMul, Nat.reduceSub, Nat.reduceLeDiff, Nat.reduceLT, Int.reduceEq, Int.reduceLT, Int.reduceLE, Int.reduceAdd, Int.reduceSub, Int.reduceNeg, reduceCtorEq, Nat.reduceShiftRight, Nat.reduceAnd, Nat.reduceBNe, hr, ne_eq, not_true_eq_false, f1, d2, decide_true, Bool.not_true, d4, not_false_eq_true]
      exact settled_bool (ext_Sx hr (by simp)) (by simp)
    have e : (decide (t.op = u.op) && (decide (t.n = u.n) && (decide (t.name = u.name) && (decide (t.sort = u.sort) && sameTs t.kids u.kids)))) = sameTs t.kids u.kids := by rw [d1, d2, d3, d4]; simp
    rw [e]
    clear e
    by_cases d5 : t.kids.length = u.kids.length
    rotate_left
    · rw [sameTs_len _ _ d5, d1, d3, d4]
      rw [d1, d3, d4] at f1
      have d5' : ¬ (t.kids.length : Int) = (u.kids.length : Int) := by omega
      refine fn_of code_ref10_Same (by simp) ?_
      simp only [go_sem, ↓reduceIte, Nat.reduceMod, Nat.reduceEqDiff, Nat.reduceAdd, Nat.reduceMul, Nat.reduceSub, Nat.reduceLeDiff, Nat.reduceLT, Int.reduceEq, Int.reduceLT, Int.reduceLE, Int.reduceAdd, Int.reduceSub, Int.reduceNeg, reduceCtorEq, Nat.reduceShiftRight, Nat.reduceAnd, Nat.reduceBNe, hr, ne_eq, not_true_eq_false, f1, d2, decide_true, Bool.not_true, hk.vlen, hk2.vlen, d5', not_false_eq_true]
      exact settled_bool (ext_Sx hr (by simp)) rfl
    have d5' : (t.kids.length : Int) = (u.kids.length : Int) := by omega
    rw [d1, d3, d4] at f1 hL ⊢
    refine fn_of code_ref10_Same (by simp) ?_
    simp only [go_sem, ↓reduceIte, Nat.reduceMod, Nat.reduceEqDiff, Nat.reduceAdd, Nat.reduceMul, Nat.reduceSub, Nat.reduceLeDiff, Nat.reduceLT, Int.reduceEq, Int.reduceLT, Int.reduceLE, Int.reduceAdd, Int.reduceSub, Int.reduceNeg, reduceCtorEq, Nat.reduceShiftRight, Nat.reduceAnd, Nat.reduceBNe, hr, ne_eq, not_true_eq_false, f1, d2, decide_true, Bool.not_true, hk.vlen, hk2.vlen, d5']
    rw [← hL]
    generalize nm s 1 = b2 at *
    generalize nm s 0 = b1 at *
    refine W_inv (fun k f τ => ∃ (i : Nat) (σ : St), Sx σ [] = τ ∧ Room σ ∧ Ext s σ ∧ s.n.val + 2 ≤ σ.n.val ∧ σ.n.val ≤ s.n.val + 2 + 12 * i ∧ k = t.kids.length - i ∧ i ≤ t.kids.length ∧ σ.obj b1 = .cells [.int .i64 t.op, ng, mg, .str t.name, .int .i64 t.sort, kv] ∧ σ.obj b2 = .cells [.int .i64 u.op, ng2, mg2, .str u.name, .int .i64 u.sort, kv2] ∧
      (∀ j (h1 : j < t.kids.length) (h2 : j < u.kids.length), j < i → sameT t.kids[j] u.kids[j] = true) ∧
      (vv 2).get f = .ptr b1 0 ∧ (vv 3).get f = .ptr b2 0 ∧ (vv 5).get f = .int .i64 (i : Int)) ?_ ⟨0, _, Sx_nil _, hr1, hx1, by omega, by omega, rfl, by omega, q1, q2, fun j _ _ h => absurd h (by omega), ?_⟩
    · rintro k f τ ⟨i, σ, rfl, hr2, hx, hn2, hn3, rfl, hi, o1, o2, hs, g2, g3, g5⟩
      have w2 : b2.val < σ.n.val := by omega
      have w1 : b1.val < σ.n.val := by omega
      by_cases c1 : i < t.kids.length
      · have c2 : i < u.kids.length := by omega
        obtain ⟨cs, hat⟩ := (hk.x hx).at c1
        obtain ⟨ds, hat2⟩ := (hk2.x hx).at c2
        have hs2 := T.size_at c1
        have hsl := T.sizes_le t.kids (i + 1)
        have hst := T.sizes_take t.kids i c1
        have hsi := T.length_le (t.kids.take i)
        rw [List.length_take, Nat.min_eq_left hi] at hsi
        have hxs := ext_Sx (s := σ) (l := [.dead, .dead, .dead, .dead, .dead, .dead, .dead, .dead, .dead, .dead, .dead, .dead]) hr2 (by simp)
        have fi := ih t.kids[i] u.kids[i] (by omega) (T.tame_at (T.tame_kids htm).2 c1) (Sx σ [.dead, .dead, .dead, .dead, .dead, .dead, .dead, .dead, .dead, .dead, .dead, .dead]) cs ds (hr2.Sx (by simp; omega) (by simp)) (by rw [Sx_n hr2 (by simp)]; simp; omega) (hat.t6.x hxs) (hat2.t6.x hxs)
        simp only [go_sem, ↓reduceIte, Nat.reduceMod, Nat.reduceEqDiff, Nat.reduceAdd, Nat.reduceMul, Nat.reduceSub, Nat.reduceLeDiff, Nat.reduceLT, Int.reduceEq, Int.reduceLT, Int.reduceLE, Int.reduceAdd, Int.reduceSub, Int.reduceNeg, reduceCtorEq, Nat.reduceShiftRight, Nat.reduceAnd, Nat.reduceBNe, g2, g3, g5, hr2, Int.ofNat_lt, w1, w2, o1, o2, hk.vlen, c1]
        refine W_drawn hr2 _ (by simp) ?_
        cases d6 : sameT t.kids[i] u.kids[i]
        · simp only [go_sem, ↓reduceIte, Nat.reduceMod, Nat.reduceEqDiff, Nat.reduceAdd, Nat.reduceMul, Nat.reduceSub, Nat.reduceLeDiff, Nat.reduceLT, Int.reduceEq, Int.reduceLT, Int.reduceLE, Int.reduceAdd, Int.reduceSub, Int.reduceNeg, reduceCtorEq, Nat.reduceShiftRight, Nat.reduceAnd, Nat.reduceBNe, g2, g3, g5, hr2, w1, w2, o1, o2, hk.ia c1, hk2.ia c2, hat.ld, hat2.ld, fi, d6, Bool.not_false]
          exact settled_bool (hx.trans hxs) (by rw [sameTs_at _ _ i c1 c2 d6])
        · simp only [go_sem, ↓reduceIte, Nat.reduceMod, Nat.reduceEqDiff, Nat.reduceAdd, Nat.reduceMul, Nat.reduceSub, Nat.reduceLeDiff, Nat.reduceLT, Int.reduceEq, Int.reduceLT, Int.reduceLE, Int.reduceAdd, Int.reduceSub, Int.reduceNeg, reduceCtorEq, Nat.reduceShiftRight, Nat.reduceAnd, Nat.reduceBNe, g2, g3, g5, hr2, w1, w2, o1, o2, hk.ia c1, hk2.ia c2, hat.ld, hat2.ld, fi, d6, Bool.not_true]
          refine ⟨t.kids.length - (i + 1), by omega, i + 1, _, Sx_nil _, hr2.Sx (by simp; omega) (by simp), hx.trans hxs, ?_, ?_, rfl, by omega, ?_, ?_, ?_, ?_⟩
          · rw [Sx_n hr2 (by simp)]; simp; omega
          · rw [Sx_n hr2 (by simp)]; simp; omega
          · rw [Sx_old hr2 (by simp) w1]; exact o1
          · rw [Sx_old hr2 (by simp) w2]; exact o2
          · intro j h1 h2 hj
            by_cases ej : j = i
            · subst ej; exact d6
            · exact hs j h1 h2 (by omega)
          · rw [wrap_i64 (by omega) (by omega)]; congr 1
      · have e : i = t.kids.length := by omega
        subst e
        simp only [go_sem, ↓reduceIte, Nat.reduceMod, Nat.reduceEqDiff, Nat.reduceAdd, Nat.reduceMul, Nat.reduceSub, Nat.reduceLeDiff, Nat.reduceLT, Int.reduceEq, Int.reduceLT, Int.reduceLE, Int.reduceAdd, Int.reduceSub, Int.reduceNeg, reduceCtorEq, Nat.reduceShiftRight, Nat.reduceAnd, Nat.reduceBNe, g2, g3, g5, hr2, Int.ofNat_lt, w1, w2, o1, o2, hk.vlen, c1]
        exact settled_bool hx (sameTs_all _ _ d5 fun j h1 h2 => hs j h1 h2 h1).symm
    · simp only [go_sem, ↓reduceIte, Nat.reduceMod, Nat.reduceEqDiff, Nat.reduceAdd, Nat.reduceMul, Nat.reduceSub, Nat.reduceLeDiff, Nat.reduceLT, Int.reduceEq, Int.reduceLT, Int.reduceLE, Int.reduceAdd, Int.reduceSub, Int.reduceNeg, reduceCtorEq, Nat.reduceShiftRight, Nat.reduceAnd, Nat.reduceBNe]
      rfl
end Go.Proofs.YtjnejkganejdbaaGreat
