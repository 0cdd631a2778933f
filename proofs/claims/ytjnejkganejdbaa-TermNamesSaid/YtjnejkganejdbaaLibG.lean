/- Functions of the program: sums, small terms. No condition. -/
import Derived.Test.YtjnejkganejdbaaLibF
import Derived.Test.YtjnejkganejdbaaLibC
import Derived.Test.YtjnejkganejdbaaVmW
namespace Go.Proofs.Ytjnejkganejdbaa
open Go Go.Vm
set_option linter.unusedVariables false
set_option linter.unusedSimpArgs false
/-- A row of one term, of two. -/
theorem ts_one {s : St} {L : List AO} (hr : Room s) (hl : L.length ≤ 5000) {i : Nat} {cs : List AV} {t : T} (hi : L[i]? = some (.cells cs)) (h : RT6 (Sx s L) cs t) : Ts (Sx s L) (.sl (nm s i) 0 1 1 0) [t] := by
  obtain ⟨h1, h2, h3⟩ := isl_lit hr hl hi (n := 1) (by unfold limit; omega) 1 0
  refine ⟨h1, rfl, fun j hj => ?_⟩
  rw [h2]
  match j, hj with
  | 0, _ => have := h.rt []; rw [List.append_nil] at this; exact this
theorem ts_two {s : St} {L : List AO} (hr : Room s) (hl : L.length ≤ 5000) {i : Nat} {cs ds : List AV} {t u : T} (hi : L[i]? = some (.cells (cs ++ ds))) (hc : cs.length = 6) (h : RT6 (Sx s L) cs t) (h' : RT6 (Sx s L) ds u) : Ts (Sx s L) (.sl (nm s i) 0 2 2 0) [t, u] := by
  obtain ⟨h1, h2, h3⟩ := isl_lit hr hl hi (n := 2) (by unfold limit; omega) 2 0
  refine ⟨h1, rfl, fun j hj => ?_⟩
  rw [h2]
  match j, hj with
  | 0, _ => exact h.rt ds
  | 1, _ =>
    show RT _ ((cs ++ ds).drop (1 * 6)) u
    rw [List.drop_append, List.drop_of_length_le (by omega), hc]
    have := h'.rt []
    rw [List.append_nil] at this; exact this
theorem Is_tm (t : T) (htm : t.tame) (s : St) (cs : List AV) (hr : Room s) (hn : s.n.val ≤ 38000) (h : RT6 s cs t) : CA F.term_Is [.agg cs] s = .ok (.bool (isT t)) s := by
  obtain ⟨ng, mg, kv, rfl, hz, hk⟩ := h.ex
  obtain ⟨M, hM⟩ : ∃ M : List AO, M = [.cells [.int .i64 t.op, ng, mg, .str t.name, .int .i64 t.sort, kv], .cells [.int .i64 t.op, ng, mg, .str t.name, .int .i64 t.sort, kv]] := ⟨_, rfl⟩
  have hlenM : M.length = 2 := by rw [hM]; rfl
  have hr3 := hr.Sx (l := M) (by omega) (by omega)
  have hn3 := Sx_n (s := s) (l := M) hr (by omega)
  have hx3 := ext_Sx (s := s) (l := M) hr (by omega)
  have o1 := ts_one (L := M) (i := 1) hr (by omega) (by rw [hM]; rfl) (h.x hx3)
  have f1 := all_ok (Sx s M) _ [t] ⟨htm, trivial⟩ hr3 (by simp; omega) o1
  rw [hM] at f1
  refine fn_of code_term_Is (by simp) ?_
  simp only [go_sem, ↓reduceIte, Nat.reduceMod, Nat.reduceEqDiff, Nat.reduceAdd, Nat.reduceMul, Nat.reduceSub, Nat.reduceLeDiff, Nat.reduceLT, Int.reduceEq, Int.reduceLT, Int.reduceLE, Int.reduceAdd, Int.reduceSub, Int.reduceNeg, reduceCtorEq, Nat.reduceShiftRight, Nat.reduceAnd, Nat.reduceBNe, hr, f1]
  exact settled_bool (ext_Sx hr (by simp)) (by simp)
end Go.Proofs.Ytjnejkganejdbaa
namespace Go.Proofs.Ytjnejkganejdbaa
open Go Go.Vm
set_option linter.unusedVariables false
set_option linter.unusedSimpArgs false
theorem trim0_nil : trim0 [] = [] := rfl
theorem trim0_le (l : List Nat) : (trim0 l).length ≤ l.length := by
  unfold trim0
  rw [List.length_reverse]
  have h := (List.dropWhile_sublist (fun a => decide (a = 0)) (l := l.reverse)).length_le
  rw [List.length_reverse] at h; exact h
theorem take_snoc {l : List Nat} {k : Nat} (h : k < l.length) : l.take (k + 1) = l.take k ++ [l[k]] := (List.take_append_getElem h).symm
/-- A row of limbs, the first of what lies there. -/
theorem nats_first {s : St} {cs : List AV} (l : List Nat) (hl : l.length ≤ 140737488355328) (cap : Nat) (ex : Bool) (ho : ∀ c ∈ cs, Ov s.n.val c) (hc : ∀ i (h : i < l.length), cs[i]? = some (.int .u32 (l[i] : Int))) : Nats s (.ts cs l.length cap ex) l := by
  refine ⟨.ts _ _ _ _ hl ho, rfl, fun i hi => ?_⟩
  show ∃ t, cs.drop (i * 1) = _
  obtain ⟨h1, h2⟩ := List.getElem?_eq_some_iff.mp (hc i hi)
  rw [Nat.mul_one, List.drop_eq_getElem_cons h1, h2]
  exact ⟨_, rfl⟩
theorem cellsN_at {l : List Nat} {i : Nat} (h : i < l.length) : (cellsN l)[i]? = some (.int .u32 (l[i] : Int)) := by unfold cellsN; rw [List.getElem?_map, List.getElem?_eq_getElem h]; rfl
theorem cellsN_len (l : List Nat) : (cellsN l).length = l.length := by simp [cellsN]
theorem cellsN_set (l : List Nat) (i x : Nat) : (cellsN l).set i (.int .u32 (x : Int)) = cellsN (l.set i x) := by unfold cellsN; rw [List.map_set]
theorem cellsN_rep (n : Nat) : List.replicate n (AV.int .u32 0) = cellsN (List.replicate n 0) := by unfold cellsN; rw [List.map_replicate]; rfl
theorem trim_ok (s : St) (b : Vm.Id) (l : List Nat) (cap : Nat) (hr : Room s) (hb : b.val < s.n.val) (hl : l.length ≤ 140737488355328) (hc : l.length ≤ cap) (ho : s.obj b = .cells (cellsN l)) : CA F.nat_trim [.sl b 0 l.length cap 0] s = .ok (.sl b 0 (trim0 l).length cap 0) s := by
  have w0 : (Sx s []).obj b = .cells (cellsN l) := ho
  refine fn_of code_nat_trim (by simp) ?_
  simp only [go_sem, ↓reduceIte, Nat.reduceMod, Nat.reduceEqDiff, Nat.reduceAdd, Nat.reduceMul, Nat.reduceSub, Nat.reduceLeDiff, Nat.reduceLT, Int.reduceEq, Int.reduceLT, Int.reduceLE, Int.reduceAdd, Int.reduceSub, Int.reduceNeg, reduceCtorEq, Nat.reduceShiftRight, Nat.reduceAnd, Nat.reduceBNe]
  refine W_inv (fun k f τ => ∃ i : Nat, Sx s [] = τ ∧ k = i ∧ i ≤ l.length ∧ trim0 (l.take i) = trim0 l ∧ (vv 0).get f = .sl b 0 i cap 0) ?_ ⟨l.length, rfl, rfl, by omega, by rw [List.take_length], ?_⟩
  · rintro k f τ ⟨i, rfl, rfl, hi, ht, g0⟩
    by_cases c0 : k = 0
    · have c0' : ¬ (0 : Int) < (k : Int) := by omega
      simp only [go_sem, ↓reduceIte, Nat.reduceMod, Nat.reduceEqDiff, Nat.reduceAdd, Nat.reduceMul, Nat.reduceSub, Nat.reduceLeDiff, Nat.reduceLT, Int.reduceEq, Int.reduceLT, Int.reduceLE, Int.reduceAdd, Int.reduceSub, Int.reduceNeg, reduceCtorEq, Nat.reduceShiftRight, Nat.reduceAnd, Nat.reduceBNe, g0, c0']
      have e2 : (trim0 l).length = k := by rw [← ht, c0]; rfl
      rw [e2]
      refine settled_ov (Ext.refl s) ?_
      exact ov_sl hb _ _ _ _
    · have c0' : (0 : Int) < (k : Int) := by omega
      have hlt : k - 1 < l.length := by omega
      have hlt2 : k - 1 < k := by omega
      have ew : IntKind.wrap .i64 ((k : Int) - 1) = ((k - 1 : Nat) : Int) := by rw [wrap_i64 (by omega) (by omega)]; omega
      have e1 : l.take k = l.take (k - 1) ++ [l[k - 1]] := by rw [← take_snoc hlt]; congr 1; omega
      have hw := fun σ => wrap1_at (cellsN_at hlt) σ
      by_cases c1 : l[k - 1] = 0
      · have c1' : (l[k - 1] : Int) = 0 := by omega
        simp only [go_sem, ↓reduceIte, Nat.reduceMod, Nat.reduceEqDiff, Nat.reduceAdd, Nat.reduceMul, Nat.reduceSub, Nat.reduceLeDiff, Nat.reduceLT, Int.reduceEq, Int.reduceLT, Int.reduceLE, Int.reduceAdd, Int.reduceSub, Int.reduceNeg, reduceCtorEq, Nat.reduceShiftRight, Nat.reduceAnd, Nat.reduceBNe, g0, c0', ew, viaddr_sl hlt2, w0, hw, c1', vslhi_eq (show k - 1 ≤ cap by omega)]
        refine ⟨k - 1, by omega, k - 1, rfl, by omega, ?_, rfl⟩
        rw [← ht, e1, trim0_snoc, if_pos c1]
      · have c1' : ¬ (l[k - 1] : Int) = 0 := by omega
        simp only [go_sem, ↓reduceIte, Nat.reduceMod, Nat.reduceEqDiff, Nat.reduceAdd, Nat.reduceMul, Nat.reduceSub, Nat.reduceLeDiff, Nat.reduceLT, Int.reduceEq, Int.reduceLT, Int.reduceLE, Int.reduceAdd, Int.reduceSub, Int.reduceNeg, reduceCtorEq, Nat.reduceShiftRight, Nat.reduceAnd, Nat.reduceBNe, g0, c0', ew, viaddr_sl hlt2, w0, hw, c1']
        have e2 : (trim0 l).length = k := by rw [← ht, e1, trim0_snoc, if_neg c1, ← e1, List.length_take]; omega
        rw [e2]
        refine settled_ov (Ext.refl s) ?_
        exact ov_sl hb _ _ _ _
  · simp only [go_sem, ↓reduceIte, Nat.reduceMod, Nat.reduceEqDiff, Nat.reduceAdd, Nat.reduceMul, Nat.reduceSub, Nat.reduceLeDiff, Nat.reduceLT, Int.reduceEq, Int.reduceLT, Int.reduceLE, Int.reduceAdd, Int.reduceSub, Int.reduceNeg, reduceCtorEq, Nat.reduceShiftRight, Nat.reduceAnd, Nat.reduceBNe]
/-- A row of rows of limbs. -/
abbrev Nss (s : St) (v : AV) (ls : List (List Nat)) : Prop := SlR s v 1 (fun r l => ∃ t w, r = w :: t ∧ Nats s w l) ls
theorem nss_at {s : St} {v : AV} {ls : List (List Nat)} (h : Nss s v ls) {i : Nat} (hi : i < ls.length) : ∃ w, Nats s w ls[i] ∧ ∀ σ, Ext s σ → vload false 1 (elp v i) σ = .ok w σ := by
  obtain ⟨t, w, h1, h2⟩ := h.el i hi
  rw [Nat.mul_one] at h1
  exact ⟨w, h2, fun σ hx => by rw [vload_x h.sl (by rw [h1]; simp) false 1 hx, h1, wrap1_one]⟩
/-- A limb, nought behind the end. -/
def lim (l : List Nat) (i : Nat) : Nat := (l[i]?).getD 0
def colS (ls : List (List Nat)) (i : Nat) : Nat := (ls.map fun l => lim l i).sum
def valS (ls : List (List Nat)) : Nat := (ls.map val).sum
theorem val_take_lim (l : List Nat) (i : Nat) : val (l.take (i + 1)) = val (l.take i) + 1000000000 ^ i * lim l i := by
  by_cases h : i < l.length
  · rw [take_snoc h, val_snoc, List.length_take, Nat.min_eq_left (by omega)]
    unfold lim
    rw [List.getElem?_eq_getElem h]; rfl
  · rw [List.take_of_length_le (by omega), List.take_of_length_le (by omega)]
    unfold lim
    rw [List.getElem?_eq_none (by omega)]; rfl
theorem valS_take (ls : List (List Nat)) (i : Nat) : valS (ls.map (·.take (i + 1))) = valS (ls.map (·.take i)) + 1000000000 ^ i * colS ls i := by
  induction ls with
  | nil => rfl
  | cons l ls ih =>
    simp only [valS, colS, List.map_cons, List.sum_cons] at ih ⊢
    rw [ih, val_take_lim, Nat.mul_add]; omega
theorem colS_le {ls : List (List Nat)} (h : ∀ l ∈ ls, small l) (i : Nat) : colS ls i ≤ ls.length * 999999999 := by
  induction ls with
  | nil => simp [colS]
  | cons l ls ih =>
    have h1 := ih fun m hm => h m (List.mem_cons_of_mem _ hm)
    have h2 : lim l i ≤ 999999999 := by
      unfold lim
      by_cases hi : i < l.length
      · rw [List.getElem?_eq_getElem hi]
        have := h l List.mem_cons_self l[i] (List.getElem_mem hi)
        simp only [Option.getD_some]; omega
      · rw [List.getElem?_eq_none (by omega)]; simp
    simp only [colS, List.map_cons, List.sum_cons, List.length_cons] at h1 ⊢
    rw [Nat.add_mul]; omega
theorem colS_take {ls : List (List Nat)} {k : Nat} (h : k < ls.length) (i : Nat) : colS (ls.take (k + 1)) i = colS (ls.take k) i + lim ls[k] i := by
  unfold colS
  rw [← List.take_append_getElem h, List.map_append, List.sum_append]
  simp only [List.map_cons, List.map_nil, List.sum_cons, List.sum_nil, Nat.add_zero]
theorem colS_take_le {ls : List (List Nat)} (h : ∀ l ∈ ls, small l) (k i : Nat) : colS (ls.take k) i ≤ ls.length * 999999999 := by
  have h1 := colS_le (ls := ls.take k) (fun l hl => h l (List.mem_of_mem_take hl)) i
  have h2 : (ls.take k).length ≤ ls.length := by rw [List.length_take]; omega
  exact Nat.le_trans h1 (Nat.mul_le_mul h2 (Nat.le_refl _))
theorem valS_lt {ls : List (List Nat)} (h : ∀ l ∈ ls, small l) {n : Nat} (hn : ∀ l ∈ ls, l.length ≤ n) : valS ls ≤ ls.length * 1000000000 ^ n := by
  induction ls with
  | nil => simp [valS]
  | cons l ls ih =>
    have h1 := ih (fun m hm => h m (List.mem_cons_of_mem _ hm)) (fun m hm => hn m (List.mem_cons_of_mem _ hm))
    have h2 := val_lt (h l List.mem_cons_self)
    have h3 := Nat.pow_le_pow_right (n := 1000000000) (by omega) (hn l List.mem_cons_self)
    simp only [valS, List.map_cons, List.sum_cons, List.length_cons] at h1 ⊢
    rw [Nat.add_mul]; omega
/-- The greatest length. -/
def mostL (ls : List (List Nat)) : Nat := ls.foldl (fun m l => max m l.length) 0
theorem mostL_take {ls : List (List Nat)} {k : Nat} (h : k < ls.length) : mostL (ls.take (k + 1)) = max (mostL (ls.take k)) ls[k].length := by
  unfold mostL
  rw [← List.take_append_getElem h, List.foldl_append]
  simp only [List.foldl_cons, List.foldl_nil]
theorem mostL_ge (ls : List (List Nat)) : ∀ l ∈ ls, l.length ≤ mostL ls := by
  have key : ∀ (ls : List (List Nat)) (m : Nat), m ≤ ls.foldl (fun m l => max m l.length) m ∧ ∀ l ∈ ls, l.length ≤ ls.foldl (fun m l => max m l.length) m := by
    intro ls
    induction ls with
    | nil => intro m; exact ⟨Nat.le_refl _, fun l h => by cases h⟩
    | cons a ls ih =>
      intro m
      obtain ⟨h1, h2⟩ := ih (max m a.length)
      refine ⟨by rw [List.foldl_cons]; omega, fun l hl => ?_⟩
      rw [List.foldl_cons]
      rcases List.mem_cons.mp hl with rfl | hl
      · omega
      · exact h2 l hl
  exact (key ls 0).2
theorem mostL_le {ls : List (List Nat)} {n : Nat} (h : ∀ l ∈ ls, l.length ≤ n) : mostL ls ≤ n := by
  have key : ∀ (ls : List (List Nat)) (m : Nat), m ≤ n → (∀ l ∈ ls, l.length ≤ n) → ls.foldl (fun m l => max m l.length) m ≤ n := by
    intro ls
    induction ls with
    | nil => intro m h _; exact h
    | cons a ls ih =>
      intro m hm hl
      rw [List.foldl_cons]
      exact ih _ (by have := hl a List.mem_cons_self; omega) fun l h => hl l (List.mem_cons_of_mem _ h)
  exact key ls 0 (by omega) h
end Go.Proofs.Ytjnejkganejdbaa
namespace Go.Proofs.Ytjnejkganejdbaa
open Go Go.Vm
set_option linter.unusedVariables false
set_option linter.unusedSimpArgs false
theorem rem_u64 (a : Nat) (s : St) : vbin .rem (.int .u64 (a : Int)) (.int .u64 1000000000) s = .ok (.int .u64 ((a % 1000000000 : Nat) : Int)) s := by
  exact (vbin_rem s .u64 (a : Int) 1000000000 (by decide)).trans rfl
theorem quo_u64 {a : Nat} (h : a ≤ 18446744073709551615) (s : St) : vbin .quo (.int .u64 (a : Int)) (.int .u64 1000000000) s = .ok (.int .u64 ((a / 1000000000 : Nat) : Int)) s := by
  rw [vbin_quo s .u64 (a : Int) 1000000000 (by decide)]
  have e : Int.tdiv (a : Int) 1000000000 = ((a / 1000000000 : Nat) : Int) := rfl
  rw [e, wrap_u64 (by omega) (by omega)]
theorem set_mid (ds : List Nat) (n x : Nat) : (ds ++ List.replicate (n + 1) 0).set ds.length x = (ds ++ [x]) ++ List.replicate n 0 := by
  rw [List.set_append_right _ _ (Nat.le_refl _), Nat.sub_self, List.replicate_succ, List.set_cons_zero]; simp
theorem val_rep0 (ds : List Nat) (n : Nat) : val (ds ++ List.replicate n 0) = val ds := by
  rw [val_append]
  have : val (List.replicate n 0) = 0 := by induction n with
    | zero => rfl
    | succ n ih => rw [List.replicate_succ, val, ih]
  rw [this]; omega
/-- So many limbs of a number. -/
def fixL : Nat → Nat → List Nat
  | 0, _ => []
  | n + 1, x => x % 1000000000 :: fixL n (x / 1000000000)
theorem fixL_eq (ds : List Nat) (h : small ds) : ds = fixL ds.length (val ds) := by
  induction ds with
  | nil => rfl
  | cons a l ih =>
    have h1 : a < 1000000000 := h a List.mem_cons_self
    have h2 := ih fun b hb => h b (List.mem_cons_of_mem _ hb)
    simp only [List.length_cons, fixL, val]
    have e1 : (a + 1000000000 * val l) % 1000000000 = a := by omega
    have e2 : (a + 1000000000 * val l) / 1000000000 = val l := by omega
    rw [e1, e2, ← h2]
theorem fixL_len (n : Nat) : ∀ x, (fixL n x).length = n := by
  induction n with
  | zero => intro x; rfl
  | succ n ih => intro x; simp [fixL, ih]
theorem fixL_small (n : Nat) : ∀ x, small (fixL n x) := by
  induction n with
  | zero => intro x a h; cases h
  | succ n ih =>
    intro x a h
    rcases List.mem_cons.mp h with rfl | h
    · omega
    · exact ih _ a h
theorem fixL_val (n : Nat) : ∀ x, x < 1000000000 ^ n → val (fixL n x) = x := by
  induction n with
  | zero => intro x h; simp at h; subst h; rfl
  | succ n ih =>
    intro x h
    rw [Nat.pow_succ] at h
    rw [fixL, val, ih _ (by omega)]; omega
theorem trim0_pre (l : List Nat) : trim0 l <+: l := by
  have h := List.dropWhile_suffix (fun a : Nat => decide (a = 0)) (l := l.reverse)
  have h2 := List.reverse_prefix.mpr h
  rw [List.reverse_reverse] at h2
  exact h2
theorem pre_at {a b : List Nat} (h : a <+: b) {i : Nat} (hi : i < a.length) : b[i]? = some a[i] := by
  obtain ⟨t, rfl⟩ := h
  rw [List.getElem?_append_left hi, List.getElem?_eq_getElem hi]
/-- What is left of a row of limbs without its noughts. -/
theorem nats_trim {s : St} (ds : List Nat) (hl : ds.length ≤ 140737488355328) (cap : Nat) (ex : Bool) : Nats s (.ts (cellsN ds) (trim0 ds).length cap ex) (trim0 ds) := by
  have := trim0_le ds
  refine nats_first _ (by omega) cap ex (ov_nats ds) fun i hi => ?_
  unfold cellsN
  rw [List.getElem?_map, pre_at (trim0_pre ds) hi]; rfl
theorem valS_take0 (ls : List (List Nat)) : valS (ls.map (·.take 0)) = 0 := by
  induction ls with
  | nil => rfl
  | cons l ls ih =>
    simp only [valS, List.map_cons, List.sum_cons, List.take_zero, val] at ih ⊢
    omega
theorem sum_ok (s : St) (v : AV) (ls : List (List Nat)) (hr : Room s) (hn : s.n.val ≤ 59000) (hv : Nss s v ls) (hs : ∀ l ∈ ls, small l) (hb : ∀ l ∈ ls, l.length ≤ 1000000) (hm : ls.length ≤ 1000) : ∃ r, CA F.nat_sum [v] s = .ok r s ∧ ∀ t, Nats t r (lims (valS ls)) := by
  have hmost := hv.most
  have hML := mostL_le hb
  have hvl := hv.vlen
  obtain ⟨M, hM⟩ : ∃ M, M = mostL ls := ⟨_, rfl⟩
  rw [← hM] at hML
  obtain ⟨D, hD⟩ : ∃ D, D = fixL (M + 1) (valS ls) := ⟨_, rfl⟩
  have hDl : D.length = M + 1 := by rw [hD, fixL_len]
  have hlt : valS ls < 1000000000 ^ (M + 1) := by
    have h4 := valS_lt hs (n := M) (fun l hl => by rw [hM]; exact mostL_ge ls l hl)
    have h6 : ls.length * 1000000000 ^ M ≤ 1000 * 1000000000 ^ M := Nat.mul_le_mul hm (Nat.le_refl _)
    have h7 : 0 < 1000000000 ^ M := Nat.pow_pos (by omega)
    rw [Nat.pow_succ]
    omega
  have hend : ∀ ds c, ds.length = M + 1 → small ds → val ds + 1000000000 ^ (M + 1) * c = valS ls → ds = D ∧ lims (valS ls) = trim0 ds := by
    intro ds c h1 h2 h3
    have hc : c = 0 := by
      rcases Nat.eq_zero_or_pos c with h0 | h0
      · exact h0
      · exfalso
        have h5 : 1000000000 ^ (M + 1) * 1 ≤ 1000000000 ^ (M + 1) * c := Nat.mul_le_mul (Nat.le_refl _) h0
        omega
    subst hc
    rw [Nat.mul_zero, Nat.add_zero] at h3
    refine ⟨by rw [hD, ← h1, ← h3]; exact fixL_eq ds h2, by rw [trim0_eq h2, h3]⟩
  refine ⟨.ts (cellsN D) (trim0 D).length (trim0 D).length false, ?_, fun t => ?_⟩
  rotate_left
  · have h2 : small D ∧ val D = valS ls := by rw [hD]; exact ⟨fixL_small _ _, fixL_val _ _ hlt⟩
    rw [← h2.2, ← trim0_eq h2.1]
    exact nats_trim D (by omega) _ _
  refine fn_of code_nat_sum (by simp) ?_
  simp only [go_sem, ↓reduceIte, Nat.reduceMod, Nat.reduceEqDiff, Nat.reduceAdd, Nat.reduceMul, Nat.reduceSub, Nat.reduceLeDiff, Nat.reduceLT, Int.reduceEq, Int.reduceLT, Int.reduceLE, Int.reduceAdd, Int.reduceSub, Int.reduceNeg, reduceCtorEq, Nat.reduceShiftRight, Nat.reduceAnd, Nat.reduceBNe, hvl]
  refine W_inv (fun k f τ => ∃ i : Nat, Sx s [] = τ ∧ k = ls.length - i ∧ i ≤ ls.length ∧ (vv 0).get f = v ∧ (vv 3).get f = .int .i64 (mostL (ls.take i) : Int) ∧ (vv 11).get f = v ∧ (vv 12).get f = .int .i64 (ls.length : Int) ∧ (vv 13).get f = .int .i64 (i : Int)) ?_ ⟨0, rfl, rfl, by omega, ?_⟩
  · rintro k f τ ⟨i, rfl, rfl, hi, g0, g3, g11, g12, g13⟩
    by_cases c1 : i < ls.length
    · obtain ⟨w, hw, hld⟩ := nss_at hv c1
      simp only [go_sem, ↓reduceIte, Nat.reduceMod, Nat.reduceEqDiff, Nat.reduceAdd, Nat.reduceMul, Nat.reduceSub, Nat.reduceLeDiff, Nat.reduceLT, Int.reduceEq, Int.reduceLT, Int.reduceLE, Int.reduceAdd, Int.reduceSub, Int.reduceNeg, reduceCtorEq, Nat.reduceShiftRight, Nat.reduceAnd, Nat.reduceBNe, g0, g3, g11, g12, g13, Int.ofNat_lt, c1, hv.ia c1, hld, hw.vlen]
      refine ⟨ls.length - (i + 1), by omega, i + 1, rfl, by omega, ?_⟩
      rw [wrap_i64 (by omega) (by omega), mostL_take c1]
      refine ⟨?_, ?_⟩ <;> congr 1; omega
    · have e : i = ls.length := by omega
      subst e
      have ew : IntKind.wrap .i64 ((M : Int) + 1) = ((M + 1 : Nat) : Int) := by rw [wrap_i64 (by omega) (by omega)]; omega
      have hmk : vmksl 4 [.int .u32 0] (.int .i64 ((M + 1 : Nat) : Int)) (.int .i64 ((M + 1 : Nat) : Int)) (Sx s []) = .ok (.sl (nm s 0) 0 (M + 1) (M + 1) 0) (Sx s [.cells (cellsN (List.replicate (M + 1) 0))]) := by
        rw [vmksl_eq (l := M + 1) (c := M + 1) (bytes := 4) hr (by simp) (by omega) (by unfold limit; omega) (by unfold limit; omega), cellsN_rep]; rfl
      have hx1 := ext_Sx (s := s) (l := [.cells (cellsN (List.replicate (M + 1) 0))]) hr (by simp)
      have hr1 := hr.Sx (l := [.cells (cellsN (List.replicate (M + 1) 0))]) (by simp; omega) (by simp)
      have hn1 := Sx_n (s := s) (l := [.cells (cellsN (List.replicate (M + 1) 0))]) hr (by simp)
      have o1 := Sx_obj? (s := s) (l := [.cells (cellsN (List.replicate (M + 1) 0))]) hr (by simp) (i := 0) rfl
      have v0 := nm_val hr (k := 0) (by omega)
      simp only [List.length_singleton] at hn1
      generalize Sx s [.cells (cellsN (List.replicate (M + 1) 0))] = σ0 at *
      simp only [go_sem, ↓reduceIte, Nat.reduceMod, Nat.reduceEqDiff, Nat.reduceAdd, Nat.reduceMul, Nat.reduceSub, Nat.reduceLeDiff, Nat.reduceLT, Int.reduceEq, Int.reduceLT, Int.reduceLE, Int.reduceAdd, Int.reduceSub, Int.reduceNeg, reduceCtorEq, Nat.reduceShiftRight, Nat.reduceAnd, Nat.reduceBNe, g0, g3, g11, g12, g13, Int.ofNat_lt, c1, List.take_length, ← hM, ew, hmk]
      generalize hb0 : nm s 0 = b at *
      refine W_inv (fun k f τ => ∃ (i : Nat) (σ : St) (ds : List Nat) (c : Nat), Sx σ [] = τ ∧ Room σ ∧ Ext s σ ∧ s.n.val + 1 ≤ σ.n.val ∧ k = M + 1 - i ∧ i ≤ M + 1 ∧ ds.length = i ∧ small ds ∧ val ds + 1000000000 ^ i * c = valS (ls.map (·.take i)) ∧ c ≤ ls.length ∧ σ.obj b = .cells (cellsN (ds ++ List.replicate (M + 1 - i) 0)) ∧
        (vv 0).get f = v ∧ (vv 6).get f = .sl b 0 (M + 1) (M + 1) 0 ∧ (vv 7).get f = .int .u64 (c : Int) ∧ (vv 26).get f = .int .i64 ((M + 1 : Nat) : Int) ∧ (vv 27).get f = .int .i64 (i : Int)) ?_ ⟨0, σ0, [], 0, Sx_nil _, hr1, hx1, by omega, rfl, by omega, rfl, (fun a h => by cases h), ?_, by omega, ?_, ?_⟩
      · rintro k f τ ⟨i, σ, ds, c, rfl, hr2, hx, hn2, rfl, hi2, hdl, hds, hval, hc, ho, g0, g6, g7, g26, g27⟩
        have w2 : b.val < σ.n.val := by omega
        by_cases c2 : i < M + 1
        · simp only [go_sem, ↓reduceIte, Nat.reduceMod, Nat.reduceEqDiff, Nat.reduceAdd, Nat.reduceMul, Nat.reduceSub, Nat.reduceLeDiff, Nat.reduceLT, Int.reduceEq, Int.reduceLT, Int.reduceLE, Int.reduceAdd, Int.reduceSub, Int.reduceNeg, reduceCtorEq, Nat.reduceShiftRight, Nat.reduceAnd, Nat.reduceBNe, g0, g6, g7, g26, g27, Int.ofNat_lt, c2, hvl]
          refine W_inv (fun k f τ => ∃ (j : Nat), Sx σ [] = τ ∧ k = ls.length - j ∧ j ≤ ls.length ∧
            (vv 0).get f = v ∧ (vv 6).get f = .sl b 0 (M + 1) (M + 1) 0 ∧ (vv 7).get f = .int .u64 ((c + colS (ls.take j) i : Nat) : Int) ∧ (vv 8).get f = .int .i64 (i : Int) ∧ (vv 26).get f = .int .i64 ((M + 1 : Nat) : Int) ∧ (vv 27).get f = .int .i64 (i : Int) ∧ (vv 30).get f = v ∧ (vv 31).get f = .int .i64 (ls.length : Int) ∧ (vv 32).get f = .int .i64 (j : Int)) ?_ ⟨0, rfl, rfl, by omega, ?_⟩
          · rintro k f τ ⟨j, rfl, rfl, hj, g0, g6, g7, g8, g26, g27, g30, g31, g32⟩
            by_cases c3 : j < ls.length
            · obtain ⟨w, hw, hld⟩ := nss_at (hv.ext hx _ fun r l ⟨t, w, h1, h2⟩ => ⟨t, w, h1, h2.x hx⟩) c3
              by_cases c4 : i < (ls[j]).length
              · simp only [go_sem, ↓reduceIte, Nat.reduceMod, Nat.reduceEqDiff, Nat.reduceAdd, Nat.reduceMul, Nat.reduceSub, Nat.reduceLeDiff, Nat.reduceLT, Int.reduceEq, Int.reduceLT, Int.reduceLE, Int.reduceAdd, Int.reduceSub, Int.reduceNeg, reduceCtorEq, Nat.reduceShiftRight, Nat.reduceAnd, Nat.reduceBNe, g0, g6, g7, g8, g26, g27, g30, g31, g32, Int.ofNat_lt, c3, hv.ia c3, hld, hw.vlen, c4, hw.ia c4, hw.u32 c4]
                refine ⟨ls.length - (j + 1), by omega, j + 1, rfl, by omega, ?_⟩
                have h1 := colS_take c3 i
                have h2 : lim ls[j] i = (ls[j])[i] := by unfold lim; rw [List.getElem?_eq_getElem c4]; rfl
                have h3 := colS_take_le hs (j + 1) i
                have h4 : ls.length * 999999999 ≤ 1000 * 999999999 := Nat.mul_le_mul hm (Nat.le_refl _)
                rw [h2] at h1
                rw [wrap_u64 (x := ((ls[j])[i] : Int)) (by omega) (by omega), wrap_u64 (by omega) (by omega), wrap_i64 (by omega) (by omega)]
                exact ⟨by congr 1; omega, rfl⟩
              · simp only [go_sem, ↓reduceIte, Nat.reduceMod, Nat.reduceEqDiff, Nat.reduceAdd, Nat.reduceMul, Nat.reduceSub, Nat.reduceLeDiff, Nat.reduceLT, Int.reduceEq, Int.reduceLT, Int.reduceLE, Int.reduceAdd, Int.reduceSub, Int.reduceNeg, reduceCtorEq, Nat.reduceShiftRight, Nat.reduceAnd, Nat.reduceBNe, g0, g6, g7, g8, g26, g27, g30, g31, g32, Int.ofNat_lt, c3, hv.ia c3, hld, hw.vlen, c4]
                refine ⟨ls.length - (j + 1), by omega, j + 1, rfl, by omega, ?_⟩
                have h1 := colS_take c3 i
                have h2 : lim ls[j] i = 0 := by unfold lim; rw [List.getElem?_eq_none (by omega)]; rfl
                rw [wrap_i64 (by omega) (by omega)]
                exact ⟨by congr 1; omega, rfl⟩
            · have e : j = ls.length := by omega
              subst e
              obtain ⟨x, hxe⟩ : ∃ x, x = c + colS ls i := ⟨_, rfl⟩
              have h3 := colS_le hs i
              have h4 : ls.length * 999999999 ≤ 1000 * 999999999 := Nat.mul_le_mul hm (Nat.le_refl _)
              have ew2 : IntKind.wrap .u32 ((x % 1000000000 : Nat) : Int) = ((x % 1000000000 : Nat) : Int) := wrap_u32 (by omega) (by omega)
              have e1 : M + 1 - i = (M + 1 - (i + 1)) + 1 := by omega
              have hst : vstore 1 (.ptr b i) (.int .u32 ((x % 1000000000 : Nat) : Int)) (Sx σ []) = .ok Vm.undef (Sx (σ.put b (.cells (cellsN ((ds ++ [x % 1000000000]) ++ List.replicate (M + 1 - (i + 1)) 0)))) []) := by
                have ho' : (Sx σ []).obj b = .cells (cellsN (ds ++ List.replicate (M + 1 - i) 0)) := ho
                rw [vstore_el ho' (one_int _ _) (by rw [cellsN_len]; simp; omega), cellsN_set, e1, ← set_mid, hdl]; rfl
              rw [List.take_length, ← hxe] at g7
              simp only [go_sem, ↓reduceIte, Nat.reduceMod, Nat.reduceEqDiff, Nat.reduceAdd, Nat.reduceMul, Nat.reduceSub, Nat.reduceLeDiff, Nat.reduceLT, Int.reduceEq, Int.reduceLT, Int.reduceLE, Int.reduceAdd, Int.reduceSub, Int.reduceNeg, reduceCtorEq, Nat.reduceShiftRight, Nat.reduceAnd, Nat.reduceBNe, g0, g6, g7, g8, g26, g27, g30, g31, g32, Int.ofNat_lt, c3, rem_u64, ew2, viaddr_sl c2, hst, quo_u64 (show x ≤ 18446744073709551615 by omega)]
              refine ⟨M + 1 - (i + 1), by omega, i + 1, _, ds ++ [x % 1000000000], x / 1000000000, Sx_nil _, hr2.put w2 _, hx.putO (by omega) _, (by show _ ≤ (σ.put b _).n.val; rw [put_n]; omega), rfl, by omega, by simp [hdl], ?_, ?_, ?_, put_self _ _ _, ?_⟩
              · intro a ha
                rcases List.mem_append.mp ha with ha | ha
                · exact hds a ha
                · simp only [List.mem_singleton] at ha; omega
              · rw [val_snoc, hdl, valS_take, ← hval, Nat.pow_succ, Nat.mul_assoc, Nat.add_assoc, ← Nat.mul_add, Nat.mod_add_div, hxe, Nat.mul_add]; omega
              · have h5 : ls.length * 999999999 + ls.length = ls.length * 1000000000 := by omega
                omega
              · rw [wrap_i64 (by omega) (by omega)]; exact ⟨rfl, rfl⟩
          · simp only [go_sem, ↓reduceIte, Nat.reduceMod, Nat.reduceEqDiff, Nat.reduceAdd, Nat.reduceMul, Nat.reduceSub, Nat.reduceLeDiff, Nat.reduceLT, Int.reduceEq, Int.reduceLT, Int.reduceLE, Int.reduceAdd, Int.reduceSub, Int.reduceNeg, reduceCtorEq, Nat.reduceShiftRight, Nat.reduceAnd, Nat.reduceBNe]
            exact ⟨g0, g6, by rw [g7]; simp [colS], g26, g27, rfl⟩
        · have e : i = M + 1 := by omega
          subst e
          have e3 : ls.map (·.take (M + 1)) = ls := by
            conv => rhs; rw [← List.map_id ls]
            refine List.map_congr_left fun l hl => ?_
            have := mostL_ge ls l hl
            rw [List.take_of_length_le (by omega)]; rfl
          rw [e3] at hval
          obtain ⟨e4, e5⟩ := hend ds c hdl hds hval
          rw [Nat.sub_self, List.replicate_zero, List.append_nil] at ho
          have ft := trim_ok σ b ds (M + 1) hr2 w2 (by omega) (by omega) ho
          rw [hdl] at ft
          rw [← e4]
          simp only [go_sem, ↓reduceIte, Nat.reduceMod, Nat.reduceEqDiff, Nat.reduceAdd, Nat.reduceMul, Nat.reduceSub, Nat.reduceLeDiff, Nat.reduceLT, Int.reduceEq, Int.reduceLT, Int.reduceLE, Int.reduceAdd, Int.reduceSub, Int.reduceNeg, reduceCtorEq, Nat.reduceShiftRight, Nat.reduceAnd, Nat.reduceBNe, g0, g6, g7, g26, g27, Int.ofNat_lt, c2, Sx_nil, ft]
          refine settled_fz hx ?_
          have hf := Fz.slN (n := s.n.val) (s := σ) b 0 (trim0 ds).length (M + 1) 0 (cellsN ds) (cellsN ds) (by omega) ho (by simp) (ov_row (ov_nats ds) σ)
          exact hf
      · have e3 := valS_take0 ls
        rw [e3]; rfl
      · rw [o1]; rfl
      · simp only [go_sem, ↓reduceIte, Nat.reduceMod, Nat.reduceEqDiff, Nat.reduceAdd, Nat.reduceMul, Nat.reduceSub, Nat.reduceLeDiff, Nat.reduceLT, Int.reduceEq, Int.reduceLT, Int.reduceLE, Int.reduceAdd, Int.reduceSub, Int.reduceNeg, reduceCtorEq, Nat.reduceShiftRight, Nat.reduceAnd, Nat.reduceBNe]
        exact ⟨g0, rfl, rfl⟩
  · simp only [go_sem, ↓reduceIte, Nat.reduceMod, Nat.reduceEqDiff, Nat.reduceAdd, Nat.reduceMul, Nat.reduceSub, Nat.reduceLeDiff, Nat.reduceLT, Int.reduceEq, Int.reduceLT, Int.reduceLE, Int.reduceAdd, Int.reduceSub, Int.reduceNeg, reduceCtorEq, Nat.reduceShiftRight, Nat.reduceAnd, Nat.reduceBNe]
    exact ⟨rfl, rfl⟩
end Go.Proofs.Ytjnejkganejdbaa
namespace Go.Proofs.Ytjnejkganejdbaa
open Go Go.Vm
set_option linter.unusedVariables false
set_option linter.unusedSimpArgs false
theorem hd_hd (l : List Nat) : hd (hd l) = hd l := by
  have h := hd_is l
  generalize hd l = a at *
  unfold hd; rw [if_pos h]
theorem hd_of {l : List Nat} (h : natIs l = true) : hd l = l := by unfold hd; rw [if_pos h]
theorem vh_of {l : List Nat} (h : natIs l = true) : vh l = val l := by unfold vh; rw [hd_of h]
theorem nss_two {s : St} {L : List AO} (hr : Room s) (hl : L.length ≤ 5000) {i : Nat} {v w : AV} {l m : List Nat} (hi : L[i]? = some (.cells [v, w])) (hv : Nats (Sx s L) v l) (hw : Nats (Sx s L) w m) : Nss (Sx s L) (.sl (nm s i) 0 2 2 0) [l, m] := by
  obtain ⟨h1, h2, h3⟩ := isl_lit hr hl hi (n := 2) (by unfold limit; omega) 2 0
  refine ⟨h1, rfl, fun j hj => ?_⟩
  rw [h2]
  match j, hj with
  | 0, _ => exact ⟨[w], v, rfl, hv⟩
  | 1, _ => exact ⟨[], w, rfl, hw⟩
theorem add_ok (s : St) (v w : AV) (l m : List Nat) (hr : Room s) (hn : s.n.val ≤ 58000) (h1 : l.length ≤ 1000000) (h2 : m.length ≤ 1000000) (hv : Nats s v l) (hw : Nats s w m) : ∃ r, CA F.nat_Add [v, w] s = .ok r s ∧ ∀ t, Nats t r (lims (vh l + vh m)) := by
  have f1 := held_ok (Sx s []) v l hv
  have f2 := held_ok (Sx s []) w m hw
  have r1 := held_rep hv
  have r2 := held_rep hw
  have i1 := natIs_small (hd_is l)
  have i2 := natIs_small (hd_is m)
  have l1 := hd_len l
  have l2 := hd_len m
  unfold vh
  generalize (if natIs l = true then v else .nils) = v' at *
  generalize (if natIs m = true then w else .nils) = w' at *
  have hx := ext_Sx (s := s) (l := [.cells [v', w']]) hr (by simp)
  obtain ⟨r, h3, h4⟩ := sum_ok (Sx s [.cells [v', w']]) (.sl (nm s 0) 0 2 2 0) [hd l, hd m] (hr.Sx (by simp; omega) (by simp)) (by rw [Sx_n hr (by simp)]; simp; omega) (nss_two hr (by simp) rfl (r1.x hx) (r2.x hx))
    (by intro a ha; simp at ha; rcases ha with rfl | rfl <;> assumption) (by intro a ha; simp at ha; rcases ha with rfl | rfl <;> omega) (by simp)
  refine ⟨r, ?_, ?_⟩
  rotate_left
  · have e : valS [hd l, hd m] = val (hd l) + val (hd m) := by simp [valS]
    rw [e] at h4; exact h4
  refine fn_of code_nat_Add (by simp) ?_
  simp only [go_sem, ↓reduceIte, Nat.reduceMod, Nat.reduceEqDiff, Nat.reduceAdd, Nat.reduceMul, Nat.reduceSub, Nat.reduceLeDiff, Nat.reduceLT, Int.reduceEq, Int.reduceLT, Int.reduceLE, Int.reduceAdd, Int.reduceSub, Int.reduceNeg, reduceCtorEq, Nat.reduceShiftRight, Nat.reduceAnd, Nat.reduceBNe, hr, f1, f2, r1.one, r2.one, h3]
  exact settled_ov hx (h4 s).sl.ov
theorem val_app_le {a b : List Nat} (hb : natIs b = true) (ha : natIs a = true) (h : val b < val a) : b.length ≤ a.length := by
  rcases Nat.lt_or_ge a.length b.length with h1 | h1
  · have := val_shorter ha hb h1; omega
  · exact h1
theorem sub_ok (s : St) (v w : AV) (l m : List Nat) (hr : Room s) (hn : s.n.val + 9 * l.length + 20 ≤ 59000) (h1 : l.length ≤ 1000000) (hv : Nats s v l) (hw : Nats s w m) : ∃ r, CA F.nat_Sub [v, w] s = .ok r s ∧ ∀ t, Nats t r (lims (vh l - vh m)) := by
  have f1 := held_ok (Sx s []) v l hv
  have f2 := held_ok (Sx s []) w m hw
  have r1 := held_rep hv
  have r2 := held_rep hw
  have i1 := hd_is l
  have i2 := hd_is m
  have l1 := hd_len l
  have q1 := natIs_small i1
  have q2 := natIs_small i2
  unfold vh
  generalize (if natIs l = true then v else .nils) = v' at *
  generalize (if natIs m = true then w else .nils) = w' at *
  generalize hd l = A at *
  generalize hd m = B at *
  have fc := cmp_ok (Sx s []) v' w' A B hr (by show s.n.val + _ + _ ≤ _; omega) r1 r2
  rw [vh_of i1, vh_of i2] at fc
  by_cases c1 : val A ≤ val B
  · have c1' : cmpI (val A) (val B) ≤ 0 := by unfold cmpI; split <;> omega
    refine ⟨.nils, ?_, fun t => by rw [Nat.sub_eq_zero_of_le c1, lims_0]; exact nats_nil t⟩
    refine fn_of code_nat_Sub (by simp) ?_
    simp only [go_sem, ↓reduceIte, Nat.reduceMod, Nat.reduceEqDiff, Nat.reduceAdd, Nat.reduceMul, Nat.reduceSub, Nat.reduceLeDiff, Nat.reduceLT, Int.reduceEq, Int.reduceLT, Int.reduceLE, Int.reduceAdd, Int.reduceSub, Int.reduceNeg, reduceCtorEq, Nat.reduceShiftRight, Nat.reduceAnd, Nat.reduceBNe, f1, f2, fc, c1']
    exact settled_ov (Ext.refl s) (ov_nils _)
  have c1' : ¬ cmpI (val A) (val B) ≤ 0 := by unfold cmpI; rw [if_neg (by omega), if_pos (by omega)]; omega
  have hBA := val_app_le i2 i1 (by omega : val B < val A)
  obtain ⟨n, hnA⟩ : ∃ n, n = A.length := ⟨_, rfl⟩
  obtain ⟨D, hD⟩ : ∃ D, D = fixL n (val A - val B) := ⟨_, rfl⟩
  have hDl : D.length = n := by rw [hD, fixL_len]
  have hlt := val_lt q1
  have hDv : val D = val A - val B := by rw [hD]; exact fixL_val _ _ (by rw [hnA]; omega)
  have hDs : small D := by rw [hD]; exact fixL_small _ _
  refine ⟨.ts (cellsN D) (trim0 D).length (trim0 D).length false, ?_, fun t => by rw [← hDv, ← trim0_eq hDs]; exact nats_trim D (by omega) _ _⟩
  have hmk : vmksl 4 [.int .u32 0] (.int .i64 (n : Int)) (.int .i64 (n : Int)) (Sx s []) = .ok (.sl (nm s 0) 0 n n 0) (Sx s [.cells (cellsN (List.replicate n 0))]) := by
    rw [vmksl_eq (l := n) (c := n) (bytes := 4) hr (by simp) (by omega) (by unfold limit; omega) (by unfold limit; omega), cellsN_rep]; rfl
  have hx1 := ext_Sx (s := s) (l := [.cells (cellsN (List.replicate n 0))]) hr (by simp)
  have hr1 := hr.Sx (l := [.cells (cellsN (List.replicate n 0))]) (by simp; omega) (by simp)
  have hn1 := Sx_n (s := s) (l := [.cells (cellsN (List.replicate n 0))]) hr (by simp)
  have o1 := Sx_obj? (s := s) (l := [.cells (cellsN (List.replicate n 0))]) hr (by simp) (i := 0) rfl
  have v0 := nm_val hr (k := 0) (by omega)
  simp only [List.length_singleton] at hn1
  generalize Sx s [.cells (cellsN (List.replicate n 0))] = σ0 at *
  refine fn_of code_nat_Sub (by simp) ?_
  simp only [go_sem, ↓reduceIte, Nat.reduceMod, Nat.reduceEqDiff, Nat.reduceAdd, Nat.reduceMul, Nat.reduceSub, Nat.reduceLeDiff, Nat.reduceLT, Int.reduceEq, Int.reduceLT, Int.reduceLE, Int.reduceAdd, Int.reduceSub, Int.reduceNeg, reduceCtorEq, Nat.reduceShiftRight, Nat.reduceAnd, Nat.reduceBNe, f1, f2, fc, c1', r1.vlen, ← hnA, hmk]
  generalize hb0 : nm s 0 = b at *
  refine W_inv (fun k f τ => ∃ (i : Nat) (σ : St) (ds : List Nat) (c : Nat), Sx σ [] = τ ∧ Room σ ∧ Ext s σ ∧ s.n.val + 1 ≤ σ.n.val ∧ k = n - i ∧ i ≤ n ∧ ds.length = i ∧ small ds ∧ val (A.take i) + 1000000000 ^ i * c = val ds + val (B.take i) ∧ c ≤ 1 ∧ σ.obj b = .cells (cellsN (ds ++ List.replicate (n - i) 0)) ∧
    (vv 1).get f = w' ∧ (vv 5).get f = .sl b 0 n n 0 ∧ (vv 6).get f = .int .u32 (c : Int) ∧ (vv 21).get f = v' ∧ (vv 22).get f = .int .i64 (n : Int) ∧ (vv 23).get f = .int .i64 (i : Int)) ?_ ⟨0, σ0, [], 0, Sx_nil _, hr1, hx1, by omega, rfl, by omega, rfl, (fun a h => by cases h), rfl, by omega, (by rw [o1]; rfl), ?_⟩
  · rintro k f τ ⟨i, σ, ds, c, rfl, hr2, hx, hn2, rfl, hi2, hdl, hds, hval, hc, ho, g1, g5, g6, g21, g22, g23⟩
    have w2 : b.val < σ.n.val := by omega
    have ho' : (Sx σ []).obj b = .cells (cellsN (ds ++ List.replicate (n - i) 0)) := ho
    have hx' : Ext s (Sx σ []) := hx
    by_cases c2 : i < n
    · have c2' : i < A.length := by omega
      have hA := q1 A[i] (List.getElem_mem c2')
      have e1 : n - i = (n - (i + 1)) + 1 := by omega
      have hst : ∀ x : Nat, vstore 1 (.ptr b i) (.int .u32 (x : Int)) (Sx σ []) = .ok Vm.undef (Sx (σ.put b (.cells (cellsN ((ds ++ [x]) ++ List.replicate (n - (i + 1)) 0)))) []) := by
        intro x
        rw [vstore_el ho' (one_int _ _) (by rw [cellsN_len]; simp; omega), cellsN_set, e1, ← set_mid, hdl]; rfl
      have hAt : val (A.take (i + 1)) = val (A.take i) + 1000000000 ^ i * A[i] := by rw [take_snoc c2', val_snoc, List.length_take, Nat.min_eq_left (by omega)]
      have hBt := val_take_lim B i
      have hBl : lim B i ≤ 999999999 := by
        unfold lim
        by_cases h : i < B.length
        · rw [List.getElem?_eq_getElem h]; have := q2 B[i] (List.getElem_mem h); simp only [Option.getD_some]; omega
        · rw [List.getElem?_eq_none (by omega)]; simp
      obtain ⟨x, hx0⟩ : ∃ x, x = c + lim B i := ⟨_, rfl⟩
      have hfin : ∀ (d c' : Nat), A[i] + 1000000000 * c' = d + x → d < 1000000000 → small (ds ++ [d]) ∧ val (A.take (i + 1)) + 1000000000 ^ (i + 1) * c' = val (ds ++ [d]) + val (B.take (i + 1)) := by
        intro d c' e1 e2
        refine ⟨fun a ha => ?_, ?_⟩
        · rcases List.mem_append.mp ha with ha | ha
          · exact hds a ha
          · simp only [List.mem_singleton] at ha; omega
        · rw [val_snoc, hdl, hAt, hBt, Nat.pow_succ, Nat.mul_assoc]
          have e4 : 1000000000 ^ i * (A[i] + 1000000000 * c') = 1000000000 ^ i * (d + (c + lim B i)) := by rw [e1, hx0]
          rw [Nat.mul_add, Nat.mul_add, Nat.mul_add] at e4
          omega
      have eb1 : IntKind.wrap .u32 ((A[i] : Int) + 1000000000) = ((A[i] + 1000000000 : Nat) : Int) := by rw [wrap_u32 (by omega) (by omega)]; omega
      have eb2 : A[i] < x → IntKind.wrap .u32 (((A[i] + 1000000000 : Nat) : Int) - (x : Int)) = ((A[i] + 1000000000 - x : Nat) : Int) := by intro h; rw [wrap_u32 (by omega) (by omega)]; omega
      have es : ¬ A[i] < x → IntKind.wrap .u32 ((A[i] : Int) - (x : Int)) = ((A[i] - x : Nat) : Int) := by intro h; rw [wrap_u32 (by omega) (by omega)]; omega
      by_cases c4 : i < B.length
      · have hlB : lim B i = B[i] := by unfold lim; rw [List.getElem?_eq_getElem c4]; rfl
        have ewx : IntKind.wrap .u32 ((c : Int) + (B[i] : Int)) = (x : Int) := by rw [wrap_u32 (by omega) (by omega)]; omega
        by_cases c5 : A[i] < x
        · have c5' : (A[i] : Int) < (x : Int) := by omega
          simp only [go_sem, ↓reduceIte, Nat.reduceMod, Nat.reduceEqDiff, Nat.reduceAdd, Nat.reduceMul, Nat.reduceSub, Nat.reduceLeDiff, Nat.reduceLT, Int.reduceEq, Int.reduceLT, Int.reduceLE, Int.reduceAdd, Int.reduceSub, Int.reduceNeg, reduceCtorEq, Nat.reduceShiftRight, Nat.reduceAnd, Nat.reduceBNe, g1, g5, g6, g21, g22, g23, Int.ofNat_lt, c2, r1.ia c2', (r1.u32 c2' hx'), r2.vlen, c4, r2.ia c4, (r2.u32 c4 hx'), ewx, viaddr_sl c2, c5', eb1, eb2 c5, hst]
          refine ⟨n - (i + 1), by omega, i + 1, _, ds ++ [A[i] + 1000000000 - x], 1, Sx_nil _, hr2.put w2 _, hx.putO (by omega) _, (by show _ ≤ (σ.put b _).n.val; rw [put_n]; omega), rfl, by omega, by simp [hdl], (hfin (A[i] + 1000000000 - x) 1 (by omega) (by omega)).1, (hfin (A[i] + 1000000000 - x) 1 (by omega) (by omega)).2, by omega, put_self _ _ _, ?_⟩
          rw [wrap_i64 (by omega) (by omega)]; exact ⟨rfl, rfl⟩
        · have c5' : ¬ (A[i] : Int) < (x : Int) := by omega
          simp only [go_sem, ↓reduceIte, Nat.reduceMod, Nat.reduceEqDiff, Nat.reduceAdd, Nat.reduceMul, Nat.reduceSub, Nat.reduceLeDiff, Nat.reduceLT, Int.reduceEq, Int.reduceLT, Int.reduceLE, Int.reduceAdd, Int.reduceSub, Int.reduceNeg, reduceCtorEq, Nat.reduceShiftRight, Nat.reduceAnd, Nat.reduceBNe, g1, g5, g6, g21, g22, g23, Int.ofNat_lt, c2, r1.ia c2', (r1.u32 c2' hx'), r2.vlen, c4, r2.ia c4, (r2.u32 c4 hx'), ewx, viaddr_sl c2, c5', es c5, hst]
          refine ⟨n - (i + 1), by omega, i + 1, _, ds ++ [A[i] - x], 0, Sx_nil _, hr2.put w2 _, hx.putO (by omega) _, (by show _ ≤ (σ.put b _).n.val; rw [put_n]; omega), rfl, by omega, by simp [hdl], (hfin (A[i] - x) 0 (by omega) (by omega)).1, (hfin (A[i] - x) 0 (by omega) (by omega)).2, by omega, put_self _ _ _, ?_⟩
          rw [wrap_i64 (by omega) (by omega)]; exact ⟨rfl, rfl⟩
      · have hlB : lim B i = 0 := by unfold lim; rw [List.getElem?_eq_none (by omega)]; rfl
        have hxc : c = x := by omega
        rw [hxc] at g6
        by_cases c5 : A[i] < x
        · have c5' : (A[i] : Int) < (x : Int) := by omega
          simp only [go_sem, ↓reduceIte, Nat.reduceMod, Nat.reduceEqDiff, Nat.reduceAdd, Nat.reduceMul, Nat.reduceSub, Nat.reduceLeDiff, Nat.reduceLT, Int.reduceEq, Int.reduceLT, Int.reduceLE, Int.reduceAdd, Int.reduceSub, Int.reduceNeg, reduceCtorEq, Nat.reduceShiftRight, Nat.reduceAnd, Nat.reduceBNe, g1, g5, g6, g21, g22, g23, Int.ofNat_lt, c2, r1.ia c2', (r1.u32 c2' hx'), r2.vlen, c4, viaddr_sl c2, c5', eb1, eb2 c5, hst]
          refine ⟨n - (i + 1), by omega, i + 1, _, ds ++ [A[i] + 1000000000 - x], 1, Sx_nil _, hr2.put w2 _, hx.putO (by omega) _, (by show _ ≤ (σ.put b _).n.val; rw [put_n]; omega), rfl, by omega, by simp [hdl], (hfin (A[i] + 1000000000 - x) 1 (by omega) (by omega)).1, (hfin (A[i] + 1000000000 - x) 1 (by omega) (by omega)).2, by omega, put_self _ _ _, ?_⟩
          rw [wrap_i64 (by omega) (by omega)]; exact ⟨rfl, rfl⟩
        · have c5' : ¬ (A[i] : Int) < (x : Int) := by omega
          simp only [go_sem, ↓reduceIte, Nat.reduceMod, Nat.reduceEqDiff, Nat.reduceAdd, Nat.reduceMul, Nat.reduceSub, Nat.reduceLeDiff, Nat.reduceLT, Int.reduceEq, Int.reduceLT, Int.reduceLE, Int.reduceAdd, Int.reduceSub, Int.reduceNeg, reduceCtorEq, Nat.reduceShiftRight, Nat.reduceAnd, Nat.reduceBNe, g1, g5, g6, g21, g22, g23, Int.ofNat_lt, c2, r1.ia c2', (r1.u32 c2' hx'), r2.vlen, c4, viaddr_sl c2, c5', es c5, hst]
          refine ⟨n - (i + 1), by omega, i + 1, _, ds ++ [A[i] - x], 0, Sx_nil _, hr2.put w2 _, hx.putO (by omega) _, (by show _ ≤ (σ.put b _).n.val; rw [put_n]; omega), rfl, by omega, by simp [hdl], (hfin (A[i] - x) 0 (by omega) (by omega)).1, (hfin (A[i] - x) 0 (by omega) (by omega)).2, by omega, put_self _ _ _, ?_⟩
          rw [wrap_i64 (by omega) (by omega)]; exact ⟨rfl, rfl⟩
    · have e : i = n := by omega
      subst e
      have e3 : A.take i = A := by rw [List.take_of_length_le (by omega)]
      have e4 : B.take i = B := by rw [List.take_of_length_le (by omega)]
      rw [e3, e4] at hval
      have h5 := val_lt hds
      rw [hdl] at h5
      have hc0 : c = 0 := by
        rcases Nat.eq_zero_or_pos c with h0 | h0
        · exact h0
        · exfalso
          have : c = 1 := by omega
          subst this
          omega
      have e5 : ds = D := by
        rw [fixL_eq ds hds, hdl, hD]; congr 1
        subst hc0; omega
      rw [Nat.sub_self, List.replicate_zero, List.append_nil] at ho
      have ft := trim_ok σ b ds i hr2 w2 (by omega) (by omega) ho
      rw [hdl] at ft
      rw [← e5]
      simp only [go_sem, ↓reduceIte, Nat.reduceMod, Nat.reduceEqDiff, Nat.reduceAdd, Nat.reduceMul, Nat.reduceSub, Nat.reduceLeDiff, Nat.reduceLT, Int.reduceEq, Int.reduceLT, Int.reduceLE, Int.reduceAdd, Int.reduceSub, Int.reduceNeg, reduceCtorEq, Nat.reduceShiftRight, Nat.reduceAnd, Nat.reduceBNe, g1, g5, g6, g21, g22, g23, Int.ofNat_lt, c2, Sx_nil, ft]
      refine settled_fz hx ?_
      exact Fz.slN (n := s.n.val) (s := σ) b 0 (trim0 ds).length i 0 (cellsN ds) (cellsN ds) (by omega) ho (by simp) (ov_row (ov_nats ds) σ)
  · simp only [go_sem, ↓reduceIte, Nat.reduceMod, Nat.reduceEqDiff, Nat.reduceAdd, Nat.reduceMul, Nat.reduceSub, Nat.reduceLeDiff, Nat.reduceLT, Int.reduceEq, Int.reduceLT, Int.reduceLE, Int.reduceAdd, Int.reduceSub, Int.reduceNeg, reduceCtorEq, Nat.reduceShiftRight, Nat.reduceAnd, Nat.reduceBNe]
    exact ⟨rfl, rfl⟩
end Go.Proofs.Ytjnejkganejdbaa
namespace Go.Proofs.Ytjnejkganejdbaa
open Go Go.Vm
set_option linter.unusedVariables false
set_option linter.unusedSimpArgs false
/-- The sum of two that are integers. -/
def zadd0 (x y : Z) : Z :=
  if x.neg = y.neg then ⟨x.neg && decide (lims (val x.mag + val y.mag) ≠ []), lims (val x.mag + val y.mag)⟩
  else if val y.mag < val x.mag then ⟨x.neg && decide (lims (val x.mag - val y.mag) ≠ []), lims (val x.mag - val y.mag)⟩
  else ⟨y.neg && decide (lims (val y.mag - val x.mag) ≠ []), lims (val y.mag - val x.mag)⟩
def zadd (z w : Z) : Z := zadd0 (zh z) (zh w)
theorem zh_nat (z : Z) : natIs (zh z).mag = true := by
  unfold zh
  cases h : zIs z
  · rfl
  · unfold zIs at h
    simp only [Bool.and_eq_true] at h
    exact h.1
theorem zh_len (z : Z) : (zh z).mag.length ≤ z.mag.length := by unfold zh; split <;> simp
theorem whole_Add_ok (s : St) (n m n2 m2 : AV) (z w : Z) (hr : Room s) (hn : s.n.val + 9 * z.mag.length + 9 * w.mag.length + 200 ≤ 58000) (h1 : z.mag.length ≤ 1000000) (h2 : w.mag.length ≤ 1000000) (hz : RZ s n m z) (hw : RZ s n2 m2 w) : ∃ r, CA F.whole_Add [.agg [n, m], .agg [n2, m2]] s = .ok (.agg [.bool (zadd z w).neg, r]) s ∧ ∀ t, Nats t r (zadd z w).mag := by
  obtain ⟨L0, hL0⟩ : ∃ L0 : List AO, L0 = [.cells [n, m], .cells [n2, m2], .cells [.bool false, .nils], .dead, .dead, .dead, .dead, .dead, .dead, .dead, .dead] := ⟨_, rfl⟩
  have hl0 : L0.length = 11 := by rw [hL0]; rfl
  have hx := ext_Sx (s := s) (l := L0) hr (by omega)
  have hr0 := hr.Sx (l := L0) (by omega) (by omega)
  have hn0 := Sx_n (s := s) (l := L0) hr (by omega)
  have fa := of_ok (Sx s L0) n m z hr0 (by omega) (hz.x hx)
  have fb := of_ok (Sx s L0) n2 m2 w hr0 (by omega) (hw.x hx)
  have hz1 := zh_rep hz
  have hw1 := zh_rep hw
  have lz := zh_len z
  have lw := zh_len w
  have nz := zh_nat z
  have nw := zh_nat w
  rw [if_cells2] at fa fb
  rw [hL0] at fa fb
  unfold zadd
  generalize zh z = x at *
  generalize zh w = y at *
  generalize (if zIs z = true then n else AV.bool false) = n' at *
  generalize (if zIs z = true then m else AV.nils) = m' at *
  generalize (if zIs w = true then n2 else AV.bool false) = n2' at *
  generalize (if zIs w = true then m2 else AV.nils) = m2' at *
  obtain ⟨xn, xm⟩ := x
  obtain ⟨yn, ym⟩ := y
  obtain ⟨rfl, hz2⟩ := hz1
  obtain ⟨rfl, hw2⟩ := hw1
  simp only at hz2 hw2 lz lw nz nw
  clear hL0 hx hr0 hn0
  obtain ⟨L, hL⟩ : ∃ L : List AO, L = [.cells [n, m], .cells [n2, m2], .cells [.bool false, .nils], .dead, .dead, .dead, .dead, .cells [m', .bool xn], .cells [m2', .bool yn], .dead, .dead, .dead, .dead, .dead, .dead, .dead, .dead, .dead, .dead, .dead, .dead, .dead, .dead, .dead] := ⟨_, rfl⟩
  have hl : L.length = 24 := by rw [hL]; rfl
  have hx := ext_Sx (s := s) (l := L) hr (by omega)
  have hr1 := hr.Sx (l := L) (by omega) (by omega)
  have hn1 := Sx_n (s := s) (l := L) hr (by omega)
  obtain ⟨r, ha1, ha2⟩ := add_ok (Sx s L) m' m2' xm ym hr1 (by omega) (by omega) (by omega) (hz2.x hx) (hw2.x hx)
  rw [vh_of nz, vh_of nw] at ha2
  by_cases c1 : xn = yn
  · have ew := whole_ok (Sx s L) r _ yn hr1 (by omega) (ha2 _)
    subst c1
    refine ⟨r, ?_, fun t => ?_⟩
    rotate_left
    · unfold zadd0; rw [if_pos rfl]; exact ha2 t
    have e0 : (zadd0 ⟨xn, xm⟩ ⟨xn, ym⟩).neg = (xn && decide (lims (val xm + val ym) ≠ [])) := by unfold zadd0; rw [if_pos rfl]
    rw [e0]
    rw [hL] at ha1 ew
    refine fn_of code_whole_Add (by simp) ?_
    simp only [go_sem, ↓reduceIte, Nat.reduceMod, Nat.reduceEqDiff, Nat.reduceAdd, Nat.reduceMul, Nat.reduceSub, Nat.reduceLeDiff, Nat.reduceLT, Int.reduceEq, Int.reduceLT, Int.reduceLE, Int.reduceAdd, Int.reduceSub, Int.reduceNeg, reduceCtorEq, Nat.reduceShiftRight, Nat.reduceAnd, Nat.reduceBNe, hr]
    refine W_drawn hr _ (by simp) ?_
    simp only [go_sem, ↓reduceIte, Nat.reduceMod, Nat.reduceEqDiff, Nat.reduceAdd, Nat.reduceMul, Nat.reduceSub, Nat.reduceLeDiff, Nat.reduceLT, Int.reduceEq, Int.reduceLT, Int.reduceLE, Int.reduceAdd, Int.reduceSub, Int.reduceNeg, reduceCtorEq, Nat.reduceShiftRight, Nat.reduceAnd, Nat.reduceBNe, hr, fa, fb, hz2.one, hw2.one]
    refine W_drawn hr _ (by simp) ?_
    simp only [go_sem, ↓reduceIte, Nat.reduceMod, Nat.reduceEqDiff, Nat.reduceAdd, Nat.reduceMul, Nat.reduceSub, Nat.reduceLeDiff, Nat.reduceLT, Int.reduceEq, Int.reduceLT, Int.reduceLE, Int.reduceAdd, Int.reduceSub, Int.reduceNeg, reduceCtorEq, Nat.reduceShiftRight, Nat.reduceAnd, Nat.reduceBNe, hr, ha1, (ha2 s).one, ew]
    exact settled_ov (ext_Sx hr (by simp)) (ov2 (ov_bool _ _) (ha2 s).sl.ov)
  · obtain ⟨L1, hL1⟩ : ∃ L : List AO, L = [.cells [n, m], .cells [n2, m2], .cells [.bool false, .nils], .dead, .dead, .dead, .dead, .cells [m', .bool xn], .cells [m2', .bool yn], .dead, .dead] := ⟨_, rfl⟩
    have hl1 : L1.length = 11 := by rw [hL1]; rfl
    have hx1 := ext_Sx (s := s) (l := L1) hr (by omega)
    have hr2 := hr.Sx (l := L1) (by omega) (by omega)
    have hn2 := Sx_n (s := s) (l := L1) hr (by omega)
    have fo := over_ok (Sx s L1) m' m2' xm ym hr2 (by omega) (hz2.x hx1) (hw2.x hx1)
    rw [vh_of nz, vh_of nw, hL1] at fo
    clear hL1 hx1 hr2 hn2 ha1 ha2
    by_cases c2 : val ym < val xm
    · obtain ⟨r, ha1, ha2⟩ := sub_ok (Sx s L) m' m2' xm ym hr1 (by omega) (by omega) (hz2.x hx) (hw2.x hx)
      rw [vh_of nz, vh_of nw] at ha2
      have ew := whole_ok (Sx s L) r _ xn hr1 (by omega) (ha2 _)
      have e1 : zadd0 ⟨xn, xm⟩ ⟨yn, ym⟩ = ⟨xn && decide (lims (val xm - val ym) ≠ []), lims (val xm - val ym)⟩ := by unfold zadd0; rw [if_neg c1, if_pos c2]
      rw [e1]
      refine ⟨r, ?_, ha2⟩
      rw [hL] at ha1 ew
      refine fn_of code_whole_Add (by simp) ?_
      simp only [go_sem, ↓reduceIte, Nat.reduceMod, Nat.reduceEqDiff, Nat.reduceAdd, Nat.reduceMul, Nat.reduceSub, Nat.reduceLeDiff, Nat.reduceLT, Int.reduceEq, Int.reduceLT, Int.reduceLE, Int.reduceAdd, Int.reduceSub, Int.reduceNeg, reduceCtorEq, Nat.reduceShiftRight, Nat.reduceAnd, Nat.reduceBNe, hr]
      refine W_drawn hr _ (by simp) ?_
      simp only [go_sem, ↓reduceIte, Nat.reduceMod, Nat.reduceEqDiff, Nat.reduceAdd, Nat.reduceMul, Nat.reduceSub, Nat.reduceLeDiff, Nat.reduceLT, Int.reduceEq, Int.reduceLT, Int.reduceLE, Int.reduceAdd, Int.reduceSub, Int.reduceNeg, reduceCtorEq, Nat.reduceShiftRight, Nat.reduceAnd, Nat.reduceBNe, hr, fa, fb, hz2.one, hw2.one, c1, fo, c2]
      refine W_drawn hr _ (by simp) ?_
      simp only [go_sem, ↓reduceIte, Nat.reduceMod, Nat.reduceEqDiff, Nat.reduceAdd, Nat.reduceMul, Nat.reduceSub, Nat.reduceLeDiff, Nat.reduceLT, Int.reduceEq, Int.reduceLT, Int.reduceLE, Int.reduceAdd, Int.reduceSub, Int.reduceNeg, reduceCtorEq, Nat.reduceShiftRight, Nat.reduceAnd, Nat.reduceBNe, hr, ha1, (ha2 s).one, ew]
      exact settled_ov (ext_Sx hr (by simp)) (ov2 (ov_bool _ _) (ha2 s).sl.ov)
    · obtain ⟨r, ha1, ha2⟩ := sub_ok (Sx s L) m2' m' ym xm hr1 (by omega) (by omega) (hw2.x hx) (hz2.x hx)
      rw [vh_of nz, vh_of nw] at ha2
      have ew := whole_ok (Sx s L) r _ yn hr1 (by omega) (ha2 _)
      have e1 : zadd0 ⟨xn, xm⟩ ⟨yn, ym⟩ = ⟨yn && decide (lims (val ym - val xm) ≠ []), lims (val ym - val xm)⟩ := by unfold zadd0; rw [if_neg c1, if_neg c2]
      rw [e1]
      refine ⟨r, ?_, ha2⟩
      rw [hL] at ha1 ew
      refine fn_of code_whole_Add (by simp) ?_
      simp only [go_sem, ↓reduceIte, Nat.reduceMod, Nat.reduceEqDiff, Nat.reduceAdd, Nat.reduceMul, Nat.reduceSub, Nat.reduceLeDiff, Nat.reduceLT, Int.reduceEq, Int.reduceLT, Int.reduceLE, Int.reduceAdd, Int.reduceSub, Int.reduceNeg, reduceCtorEq, Nat.reduceShiftRight, Nat.reduceAnd, Nat.reduceBNe, hr]
      refine W_drawn hr _ (by simp) ?_
      simp only [go_sem, ↓reduceIte, Nat.reduceMod, Nat.reduceEqDiff, Nat.reduceAdd, Nat.reduceMul, Nat.reduceSub, Nat.reduceLeDiff, Nat.reduceLT, Int.reduceEq, Int.reduceLT, Int.reduceLE, Int.reduceAdd, Int.reduceSub, Int.reduceNeg, reduceCtorEq, Nat.reduceShiftRight, Nat.reduceAnd, Nat.reduceBNe, hr, fa, fb, hz2.one, hw2.one, c1, fo, c2]
      refine W_drawn hr _ (by simp) ?_
      simp only [go_sem, ↓reduceIte, Nat.reduceMod, Nat.reduceEqDiff, Nat.reduceAdd, Nat.reduceMul, Nat.reduceSub, Nat.reduceLeDiff, Nat.reduceLT, Int.reduceEq, Int.reduceLT, Int.reduceLE, Int.reduceAdd, Int.reduceSub, Int.reduceNeg, reduceCtorEq, Nat.reduceShiftRight, Nat.reduceAnd, Nat.reduceBNe, hr, ha1, (ha2 s).one, ew]
      exact settled_ov (ext_Sx hr (by simp)) (ov2 (ov_bool _ _) (ha2 s).sl.ov)
theorem zadd_zero (z : Z) : zadd z ⟨false, []⟩ = zh z := by
  have h2 : zh ⟨false, []⟩ = ⟨false, []⟩ := rfl
  have h3 := zh_nat z
  have h4 : (zh z).neg = true → (zh z).mag ≠ [] := by
    unfold zh
    cases h : zIs z
    · intro e; cases e
    · intro e
      unfold zIs at h
      simp only [Bool.and_eq_true, Bool.or_eq_true, Bool.not_eq_true', decide_eq_true_eq] at h
      rcases h.2 with h5 | h5
      · rw [if_pos rfl, h5] at e; cases e
      · exact h5
  unfold zadd
  rw [h2]
  generalize zh z = x at *
  obtain ⟨xn, xm⟩ := x
  simp only at h3 h4
  unfold zadd0
  simp only [val, Nat.add_zero, Nat.sub_zero, lims_val h3]
  cases xn
  · simp
  · have h5 := h4 rfl
    have h6 : 0 < val xm := by
      have := mt (val_zero h3).mp h5; omega
    simp [h5, h6]
theorem splice1_2 (a b z0 z1 z2 z3 z4 z5 : AV) : splice 1 [a, b] [z0, z1, z2, z3, z4, z5] = [z0, a, b, z3, z4, z5] := rfl
/-- A number as a term. -/
def numT (z : Z) : T := .mk 1 (zh z) [] 2 []
theorem num_rep {s : St} {n m : AV} {z : Z} (hz : RZ s n m z) : RT6 s [.int .i64 1, n, m, .str [], .int .i64 2, .nils] (.mk 1 z [] 2 []) := ⟨n, m, .nils, rfl, hz, ts_nil s⟩
theorem Num_ok (s : St) (n m : AV) (z : Z) (hr : Room s) (hn : s.n.val + 9 * z.mag.length ≤ 50000) (h1 : z.mag.length ≤ 1000000) (hz : RZ s n m z) : ∃ cs, CA F.term_Num [.agg [n, m]] s = .ok (.agg cs) s ∧ ∀ t, RT6 t cs (numT z) := by
  have hx := ext_Sx (s := s) (l := [.cells [n, m], .cells [.int .i64 0, .bool false, .nils, .str [], .int .i64 0, .nils]]) hr (by simp)
  obtain ⟨r, hf, h2⟩ := whole_Add_ok (Sx s [.cells [n, m], .cells [.int .i64 0, .bool false, .nils, .str [], .int .i64 0, .nils]]) n m (.bool false) .nils z ⟨false, []⟩ (hr.Sx (by simp; omega) (by simp)) (by rw [Sx_n hr (by simp)]; simp; omega) h1 (by simp) (hz.x hx) ⟨rfl, nats_nil _⟩
  rw [zadd_zero] at hf h2
  refine ⟨[.int .i64 1, .bool (zh z).neg, r, .str [], .int .i64 2, .nils], ?_, fun t => num_rep ⟨rfl, h2 t⟩⟩
  refine fn_of code_term_Num (by simp) ?_
  simp only [go_sem, ↓reduceIte, Nat.reduceMod, Nat.reduceEqDiff, Nat.reduceAdd, Nat.reduceMul, Nat.reduceSub, Nat.reduceLeDiff, Nat.reduceLT, Int.reduceEq, Int.reduceLT, Int.reduceLE, Int.reduceAdd, Int.reduceSub, Int.reduceNeg, reduceCtorEq, Nat.reduceShiftRight, Nat.reduceAnd, Nat.reduceBNe, hr, hf, splice1_2]
  refine settled_ov (ext_Sx hr (by simp)) (ov_agg ?_)
  intro c hc
  simp at hc
  rcases hc with rfl | rfl | rfl | rfl | rfl | rfl
  · exact ov_int _ _ _
  · exact ov_bool _ _
  · exact (h2 s).sl.ov
  · exact ov_str _ _
  · exact ov_int _ _ _
  · exact ov_nils _
/-- A truth value as a term. -/
def boolT (b : Bool) : T := .mk (if b then 2 else 3) ⟨false, []⟩ [] 1 []
theorem bool_rep (s : St) (b : Bool) : RT6 s [.int .i64 (if b then 2 else 3), .bool false, .nils, .str [], .int .i64 1, .nils] (boolT b) := ⟨_, _, .nils, rfl, ⟨rfl, nats_nil s⟩, ts_nil s⟩
theorem ov_bool6 (n : Nat) (k : Int) : Ov n (.agg [.int .i64 k, .bool false, .nils, .str [], .int .i64 1, .nils]) := by
  refine ov_agg fun c hc => ?_
  simp at hc
  rcases hc with rfl | rfl | rfl | rfl | rfl | rfl
  · exact ov_int _ _ _
  · exact ov_bool _ _
  · exact ov_nils _
  · exact ov_str _ _
  · exact ov_int _ _ _
  · exact ov_nils _
theorem Bool_ok (s : St) (b : Bool) (hr : Room s) : CA F.term_Bool [.bool b] s = .ok (.agg [.int .i64 (if b then 2 else 3), .bool false, .nils, .str [], .int .i64 1, .nils]) s := by
  refine fn_of code_term_Bool (by simp) ?_
  cases b
  · simp only [go_sem, ↓reduceIte, Nat.reduceMod, Nat.reduceEqDiff, Nat.reduceAdd, Nat.reduceMul, Nat.reduceSub, Nat.reduceLeDiff, Nat.reduceLT, Int.reduceEq, Int.reduceLT, Int.reduceLE, Int.reduceAdd, Int.reduceSub, Int.reduceNeg, reduceCtorEq, Nat.reduceShiftRight, Nat.reduceAnd, Nat.reduceBNe, hr]
    exact settled_ov (ext_Sx hr (by simp)) (ov_bool6 _ _)
  · simp only [go_sem, ↓reduceIte, Nat.reduceMod, Nat.reduceEqDiff, Nat.reduceAdd, Nat.reduceMul, Nat.reduceSub, Nat.reduceLeDiff, Nat.reduceLT, Int.reduceEq, Int.reduceLT, Int.reduceLE, Int.reduceAdd, Int.reduceSub, Int.reduceNeg, reduceCtorEq, Nat.reduceShiftRight, Nat.reduceAnd, Nat.reduceBNe, hr]
    exact settled_ov (ext_Sx hr (by simp)) (ov_bool6 _ _)
end Go.Proofs.Ytjnejkganejdbaa
namespace Go.Proofs.Ytjnejkganejdbaa
open Go Go.Vm
set_option linter.unusedVariables false
set_option linter.unusedSimpArgs false
mutual
def fewN : T → Bool
  | .mk _ n a _ ks => decide (a.length ≤ 30) && (decide (n.mag.length ≤ 4) && fewNs ks)
def fewNs : List T → Bool
  | [] => true
  | t :: l => fewN t && fewNs l
end
theorem fewN_eq (t : T) : fewN t = (decide (t.name.length ≤ 30) && (decide (t.n.mag.length ≤ 4) && fewNs t.kids)) := by cases t; rfl
theorem fewNs_all : ∀ (l : List T), (∀ i (h : i < l.length), fewN l[i] = true) → fewNs l = true
  | [], _ => rfl
  | t :: l, h => by
    rw [fewNs, Bool.and_eq_true]
    exact ⟨h 0 (by simp), fewNs_all l fun i hi => h (i + 1) (by simpa using hi)⟩
theorem fewNs_not : ∀ (l : List T) (i : Nat) (h : i < l.length), fewN l[i] = false → fewNs l = false
  | t :: l, 0, _, h => by rw [fewNs]; rw [List.getElem_cons_zero] at h; rw [h, Bool.false_and]
  | t :: l, i + 1, hi, h => by rw [fewNs, fewNs_not l i (by simpa using hi) (by simpa using h), Bool.and_false]
theorem fewNames_ok : ∀ (n : Nat) (t : T), t.size ≤ n → ∀ (s : St) (cs : List AV), Room s → s.n.val + t.size ≤ 59000 → RT6 s cs t → CA F.law10_fewNames [.agg cs] s = .ok (.bool (fewN t)) s := by
  intro n
  induction n with
  | zero => intro t h; have := T.size_kids t; omega
  | succ n ih =>
    intro t hln s cs hr hn h
    obtain ⟨ng, mg, kv, rfl, hz, hk⟩ := h.ex
    have hsz := T.size_kids t
    have hm := hk.most
    have hx1 := ext_Sx (s := s) (l := [.cells [.int .i64 t.op, ng, mg, .str t.name, .int .i64 t.sort, kv]]) hr (by simp)
    have hr1 := hr.Sx (l := [.cells [.int .i64 t.op, ng, mg, .str t.name, .int .i64 t.sort, kv]]) (by simp; omega) (by simp)
    have hn1 := Sx_n (s := s) (l := [.cells [.int .i64 t.op, ng, mg, .str t.name, .int .i64 t.sort, kv]]) hr (by simp)
    simp only [List.length_singleton] at hn1
    rw [fewN_eq]
    by_cases d1 : 30 < t.name.length
    · have d1' : (30 : Int) < (t.name.length : Int) := by omega
      have e : decide (t.name.length ≤ 30) = false := by simp; omega
      rw [e, Bool.false_and]
      refine fn_of code_law10_fewNames (by simp) ?_
      simp only [go_sem, ↓reduceIte, Nat.reduceMod, Nat.reduceEqDiff, Nat.reduceAdd, Nat.reduceMul, Nat.reduceSub, Nat.reduceLeDiff, Nat.reduceLT, Int.reduceEq, Int.reduceLT, Int.reduceLE, Int.reduceAdd, Int.reduceSub, Int.reduceNeg, reduceCtorEq, Nat.reduceShiftRight, Nat.reduceAnd, Nat.reduceBNe, hr, d1']
      exact settled_bool (ext_Sx hr (by simp)) rfl
    have d1' : ¬ (30 : Int) < (t.name.length : Int) := by omega
    have e1 : decide (t.name.length ≤ 30) = true := by simp; omega
    rw [e1, Bool.true_and]
    by_cases d2 : 4 < t.n.mag.length
    · have d2' : (4 : Int) < (t.n.mag.length : Int) := by omega
      have e : decide (t.n.mag.length ≤ 4) = false := by simp; omega
      rw [e, Bool.false_and]
      refine fn_of code_law10_fewNames (by simp) ?_
      simp only [go_sem, ↓reduceIte, Nat.reduceMod, Nat.reduceEqDiff, Nat.reduceAdd, Nat.reduceMul, Nat.reduceSub, Nat.reduceLeDiff, Nat.reduceLT, Int.reduceEq, Int.reduceLT, Int.reduceLE, Int.reduceAdd, Int.reduceSub, Int.reduceNeg, reduceCtorEq, Nat.reduceShiftRight, Nat.reduceAnd, Nat.reduceBNe, hr, d1', hz.mag.vlen, d2']
      exact settled_bool (ext_Sx hr (by simp)) rfl
    have d2' : ¬ (4 : Int) < (t.n.mag.length : Int) := by omega
    have e2 : decide (t.n.mag.length ≤ 4) = true := by simp; omega
    rw [e2, Bool.true_and]
    refine fn_of code_law10_fewNames (by simp) ?_
    simp only [go_sem, ↓reduceIte, Nat.reduceMod, Nat.reduceEqDiff, Nat.reduceAdd, Nat.reduceMul, Nat.reduceSub, Nat.reduceLeDiff, Nat.reduceLT, Int.reduceEq, Int.reduceLT, Int.reduceLE, Int.reduceAdd, Int.reduceSub, Int.reduceNeg, reduceCtorEq, Nat.reduceShiftRight, Nat.reduceAnd, Nat.reduceBNe, hr, d1', hz.mag.vlen, d2']
    refine W_inv (fun k f τ => ∃ i : Nat, Sx s [.cells [.int .i64 t.op, ng, mg, .str t.name, .int .i64 t.sort, kv]] = τ ∧ k = t.kids.length - i ∧ i ≤ t.kids.length ∧ (∀ j (h : j < t.kids.length), j < i → fewN t.kids[j] = true) ∧ (vv 1).get f = .ptr (nm s 0) 0 ∧ (vv 3).get f = .int .i64 (i : Int)) ?_ ⟨0, rfl, rfl, by omega, (fun j _ h => absurd h (by omega)), ?_⟩
    · rintro k f τ ⟨i, rfl, rfl, hi, ha, g1, g3⟩
      by_cases c1 : i < t.kids.length
      · obtain ⟨ds, hat⟩ := (hk.x hx1).at c1
        have hs1 := T.size_at c1
        have fi := ih t.kids[i] (by omega) _ ds hr1 (by omega) hat.t6
        cases d : fewN t.kids[i]
        · simp only [go_sem, ↓reduceIte, Nat.reduceMod, Nat.reduceEqDiff, Nat.reduceAdd, Nat.reduceMul, Nat.reduceSub, Nat.reduceLeDiff, Nat.reduceLT, Int.reduceEq, Int.reduceLT, Int.reduceLE, Int.reduceAdd, Int.reduceSub, Int.reduceNeg, reduceCtorEq, Nat.reduceShiftRight, Nat.reduceAnd, Nat.reduceBNe, hr, g1, g3, Int.ofNat_lt, c1, hk.vlen, hk.ia c1, hat.ld, fi, d, Bool.not_false]
          exact settled_bool (ext_Sx hr (by simp)) (by rw [fewNs_not _ i c1 d])
        · simp only [go_sem, ↓reduceIte, Nat.reduceMod, Nat.reduceEqDiff, Nat.reduceAdd, Nat.reduceMul, Nat.reduceSub, Nat.reduceLeDiff, Nat.reduceLT, Int.reduceEq, Int.reduceLT, Int.reduceLE, Int.reduceAdd, Int.reduceSub, Int.reduceNeg, reduceCtorEq, Nat.reduceShiftRight, Nat.reduceAnd, Nat.reduceBNe, hr, g1, g3, Int.ofNat_lt, c1, hk.vlen, hk.ia c1, hat.ld, fi, d, Bool.not_true]
          refine ⟨t.kids.length - (i + 1), by omega, i + 1, rfl, by omega, ?_, ?_⟩
          · intro j h1 h2
            by_cases e : j = i
            · subst e; exact d
            · exact ha j h1 (by omega)
          · rw [wrap_i64 (by omega) (by omega)]; congr 1
      · simp only [go_sem, ↓reduceIte, Nat.reduceMod, Nat.reduceEqDiff, Nat.reduceAdd, Nat.reduceMul, Nat.reduceSub, Nat.reduceLeDiff, Nat.reduceLT, Int.reduceEq, Int.reduceLT, Int.reduceLE, Int.reduceAdd, Int.reduceSub, Int.reduceNeg, reduceCtorEq, Nat.reduceShiftRight, Nat.reduceAnd, Nat.reduceBNe, hr, g1, g3, Int.ofNat_lt, c1, hk.vlen]
        exact settled_bool (ext_Sx hr (by simp)) (fewNs_all _ fun j hj => ha j hj (by omega)).symm
    · simp only [go_sem, ↓reduceIte, Nat.reduceMod, Nat.reduceEqDiff, Nat.reduceAdd, Nat.reduceMul, Nat.reduceSub, Nat.reduceLeDiff, Nat.reduceLT, Int.reduceEq, Int.reduceLT, Int.reduceLE, Int.reduceAdd, Int.reduceSub, Int.reduceNeg, reduceCtorEq, Nat.reduceShiftRight, Nat.reduceAnd, Nat.reduceBNe]
      rfl
def fewT (t : T) : Bool := decide (t.size ≤ 120) && fewN t
def fewTs (l : List T) : Bool := l.all fewT && decide (l.length ≤ 8)
theorem fewTerm_ok (t : T) (s : St) (cs : List AV) (hr : Room s) (hn : s.n.val ≤ 58000) (h : RT6 s cs t) : CA F.law10_fewTerm [.agg cs] s = .ok (.bool (fewT t)) s := by
  obtain ⟨ng, mg, kv, rfl, hz, hk⟩ := h.ex
  have hx1 := ext_Sx (s := s) (l := [.cells [.int .i64 t.op, ng, mg, .str t.name, .int .i64 t.sort, kv]]) hr (by simp)
  have hr1 := hr.Sx (l := [.cells [.int .i64 t.op, ng, mg, .str t.name, .int .i64 t.sort, kv]]) (by simp; omega) (by simp)
  have hn1 := Sx_n (s := s) (l := [.cells [.int .i64 t.op, ng, mg, .str t.name, .int .i64 t.sort, kv]]) hr (by simp)
  simp only [List.length_singleton] at hn1
  have f1 := ref_Count_ok _ _ t hr1 (by omega) (h.x hx1)
  unfold fewT
  by_cases d1 : t.size ≤ 120
  · have d1' : min (t.size : Int) 401 ≤ 120 := by omega
    have f2 := fewNames_ok _ t (Nat.le_refl _) _ _ hr1 (by omega) (h.x hx1)
    refine fn_of code_law10_fewTerm (by simp) ?_
    simp only [go_sem, ↓reduceIte, Nat.reduceMod, Nat.reduceEqDiff, Nat.reduceAdd, Nat.reduceMul, Nat.reduceSub, Nat.reduceLeDiff, Nat.reduceLT, Int.reduceEq, Int.reduceLT, Int.reduceLE, Int.reduceAdd, Int.reduceSub, Int.reduceNeg, reduceCtorEq, Nat.reduceShiftRight, Nat.reduceAnd, Nat.reduceBNe, hr, f1, f2, d1']
    exact settled_bool (ext_Sx hr (by simp)) (by simp [d1])
  · have d1' : ¬ min (t.size : Int) 401 ≤ 120 := by omega
    refine fn_of code_law10_fewTerm (by simp) ?_
    simp only [go_sem, ↓reduceIte, Nat.reduceMod, Nat.reduceEqDiff, Nat.reduceAdd, Nat.reduceMul, Nat.reduceSub, Nat.reduceLeDiff, Nat.reduceLT, Int.reduceEq, Int.reduceLT, Int.reduceLE, Int.reduceAdd, Int.reduceSub, Int.reduceNeg, reduceCtorEq, Nat.reduceShiftRight, Nat.reduceAnd, Nat.reduceBNe, hr, f1, d1']
    exact settled_bool (ext_Sx hr (by simp)) (by simp [d1])
theorem fewTerms_ok (s : St) (v : AV) (l : List T) (hr : Room s) (hn : s.n.val ≤ 58000) (hv : Ts s v l) : CA F.law10_fewTerms [v] s = .ok (.bool (fewTs l)) s := by
  have hm := hv.most
  refine fn_of code_law10_fewTerms (by simp) ?_
  unfold fewTs
  simp only [go_sem, ↓reduceIte, Nat.reduceMod, Nat.reduceEqDiff, Nat.reduceAdd, Nat.reduceMul, Nat.reduceSub, Nat.reduceLeDiff, Nat.reduceLT, Int.reduceEq, Int.reduceLT, Int.reduceLE, Int.reduceAdd, Int.reduceSub, Int.reduceNeg, reduceCtorEq, Nat.reduceShiftRight, Nat.reduceAnd, Nat.reduceBNe]
  refine W_inv (fun k f τ => ∃ i : Nat, Sx s [] = τ ∧ k = l.length - i ∧ i ≤ l.length ∧ (l.take i).all fewT = true ∧ (vv 0).get f = v ∧ (vv 3).get f = .int .i64 (i : Int)) ?_ ⟨0, rfl, rfl, by omega, by simp, ?_⟩
  · rintro k f τ ⟨i, rfl, rfl, hi, ha, g0, g3⟩
    by_cases c1 : i < l.length
    · obtain ⟨ds, hat⟩ := hv.at c1
      have fi := fewTerm_ok l[i] (Sx s []) ds hr hn hat.t6
      cases d : fewT l[i]
      · simp only [go_sem, ↓reduceIte, Nat.reduceMod, Nat.reduceEqDiff, Nat.reduceAdd, Nat.reduceMul, Nat.reduceSub, Nat.reduceLeDiff, Nat.reduceLT, Int.reduceEq, Int.reduceLT, Int.reduceLE, Int.reduceAdd, Int.reduceSub, Int.reduceNeg, reduceCtorEq, Nat.reduceShiftRight, Nat.reduceAnd, Nat.reduceBNe, g0, g3, Int.ofNat_lt, c1, hv.vlen, hv.ia c1, hat.ld, fi, d, Bool.not_false]
        refine settled_bool (Ext.refl s) ?_
        have : l.all fewT = false := by
          rw [Bool.eq_false_iff]; intro h
          have := List.all_eq_true.mp h l[i] (List.getElem_mem c1)
          rw [d] at this; cases this
        rw [this]; rfl
      · simp only [go_sem, ↓reduceIte, Nat.reduceMod, Nat.reduceEqDiff, Nat.reduceAdd, Nat.reduceMul, Nat.reduceSub, Nat.reduceLeDiff, Nat.reduceLT, Int.reduceEq, Int.reduceLT, Int.reduceLE, Int.reduceAdd, Int.reduceSub, Int.reduceNeg, reduceCtorEq, Nat.reduceShiftRight, Nat.reduceAnd, Nat.reduceBNe, g0, g3, Int.ofNat_lt, c1, hv.vlen, hv.ia c1, hat.ld, fi, d, Bool.not_true]
        refine ⟨l.length - (i + 1), by omega, i + 1, rfl, by omega, ?_, ?_⟩
        · rw [← List.take_append_getElem c1, List.all_append, ha, List.all_cons, d]; rfl
        · rw [wrap_i64 (by omega) (by omega)]; congr 1
    · have e : i = l.length := by omega
      subst e
      rw [List.take_length] at ha
      simp only [go_sem, ↓reduceIte, Nat.reduceMod, Nat.reduceEqDiff, Nat.reduceAdd, Nat.reduceMul, Nat.reduceSub, Nat.reduceLeDiff, Nat.reduceLT, Int.reduceEq, Int.reduceLT, Int.reduceLE, Int.reduceAdd, Int.reduceSub, Int.reduceNeg, reduceCtorEq, Nat.reduceShiftRight, Nat.reduceAnd, Nat.reduceBNe, g0, g3, Int.ofNat_lt, c1, hv.vlen]
      refine settled_bool (Ext.refl s) ?_
      rw [ha, Bool.true_and]
      congr 1; apply propext; omega
  · simp only [go_sem, ↓reduceIte, Nat.reduceMod, Nat.reduceEqDiff, Nat.reduceAdd, Nat.reduceMul, Nat.reduceSub, Nat.reduceLeDiff, Nat.reduceLT, Int.reduceEq, Int.reduceLT, Int.reduceLE, Int.reduceAdd, Int.reduceSub, Int.reduceNeg, reduceCtorEq, Nat.reduceShiftRight, Nat.reduceAnd, Nat.reduceBNe]
    rfl
def fewG (g : Sg) : Bool := decide (g.name.length ≤ 40) && decide (g.args.length ≤ 6)
/-! ### What follows of it -/
mutual
theorem fewN_tame : ∀ t : T, fewN t = true → t.tame
  | .mk _ n a _ ks, h => by
    rw [fewN] at h
    simp only [Bool.and_eq_true, decide_eq_true_eq] at h
    exact ⟨by omega, by omega, fewNs_tames ks h.2.2⟩
theorem fewNs_tames : ∀ l : List T, fewNs l = true → T.tames l
  | [], _ => trivial
  | t :: l, h => by
    rw [fewNs, Bool.and_eq_true] at h
    exact ⟨fewN_tame t h.1, fewNs_tames l h.2⟩
end
theorem fewTs_of {l : List T} (h : fewTs l = true) : T.tames l ∧ l.length ≤ 8 ∧ T.sizes l ≤ 120 * l.length := by
  unfold fewTs at h
  simp only [Bool.and_eq_true, decide_eq_true_eq] at h
  obtain ⟨h1, h2⟩ := h
  have : ∀ l : List T, l.all fewT = true → T.tames l ∧ T.sizes l ≤ 120 * l.length := by
    intro l
    induction l with
    | nil => intro _; exact ⟨trivial, by simp [T.sizes]⟩
    | cons t l ih =>
      intro h
      rw [List.all_cons, Bool.and_eq_true] at h
      obtain ⟨i1, i2⟩ := ih h.2
      unfold fewT at h
      simp only [Bool.and_eq_true, decide_eq_true_eq] at h
      refine ⟨⟨fewN_tame t h.1.2, i1⟩, ?_⟩
      simp only [T.sizes, List.length_cons]; omega
  exact ⟨(this l h1).1, h2, (this l h1).2⟩
theorem known_ok (s : St) : CA F.law10_known [] s = .ok (.bool true) s := by
  refine cc_ok.mpr (.base _ _ _ _ _ ?_)
  have e : F.law10_known.get BT = true_B := by kernel_rfl
  rw [e]; rfl
end Go.Proofs.Ytjnejkganejdbaa
namespace Go.Proofs.Ytjnejkganejdbaa
open Go Go.Vm
set_option linter.unusedVariables false
set_option linter.unusedSimpArgs false
theorem lims_one {n : Nat} (h0 : n ≠ 0) (h : n < 1000000000) : lims n = [n] := by
  rw [lims_pos h0, show n / 1000000000 = 0 by omega, lims_0, Nat.mod_eq_of_lt h]
theorem natOf_ok (s : St) (n : Nat) (hr : Room s) (hn : n < 1000000000) : ∃ r, CA F.ref1_NatOf [.int .u64 (n : Int)] s = .ok r s ∧ ∀ t, Nats t r (lims n) := by
  by_cases h0 : n = 0
  · subst h0
    refine ⟨.nils, ?_, fun t => by rw [lims_0]; exact nats_nil t⟩
    refine fn_of code_ref1_NatOf (by simp) ?_
    simp only [go_sem, ↓reduceIte, Nat.reduceMod, Nat.reduceEqDiff, Nat.reduceAdd, Nat.reduceMul, Nat.reduceSub, Nat.reduceLeDiff, Nat.reduceLT, Int.reduceEq, Int.reduceLT, Int.reduceLE, Int.reduceAdd, Int.reduceSub, Int.reduceNeg, reduceCtorEq, Nat.reduceShiftRight, Nat.reduceAnd, Nat.reduceBNe]
    rw [W_loop]
    simp only [go_sem, ↓reduceIte, Nat.reduceMod, Nat.reduceEqDiff, Nat.reduceAdd, Nat.reduceMul, Nat.reduceSub, Nat.reduceLeDiff, Nat.reduceLT, Int.reduceEq, Int.reduceLT, Int.reduceLE, Int.reduceAdd, Int.reduceSub, Int.reduceNeg, reduceCtorEq, Nat.reduceShiftRight, Nat.reduceAnd, Nat.reduceBNe]
    exact settled_ov (Ext.refl s) (ov_nils _)
  · have h1 : (0 : Int) < (n : Int) := by omega
    have hm : ((n % 1000000000 : Nat) : Int) = (n : Int) := by omega
    have hw : IntKind.wrap .u32 (n : Int) = (n : Int) := wrap_u32 (by omega) (by omega)
    have hq : ((n / 1000000000 : Nat) : Int) = 0 := by omega
    refine ⟨.ts (cellsN [n]) 1 1 false, ?_, fun t => by rw [lims_one h0 hn]; exact nats_ts [n] (by simp) 1 false⟩
    refine fn_of code_ref1_NatOf (by simp) ?_
    simp only [go_sem, ↓reduceIte, Nat.reduceMod, Nat.reduceEqDiff, Nat.reduceAdd, Nat.reduceMul, Nat.reduceSub, Nat.reduceLeDiff, Nat.reduceLT, Int.reduceEq, Int.reduceLT, Int.reduceLE, Int.reduceAdd, Int.reduceSub, Int.reduceNeg, reduceCtorEq, Nat.reduceShiftRight, Nat.reduceAnd, Nat.reduceBNe]
    rw [W_loop]
    simp only [go_sem, ↓reduceIte, Nat.reduceMod, Nat.reduceEqDiff, Nat.reduceAdd, Nat.reduceMul, Nat.reduceSub, Nat.reduceLeDiff, Nat.reduceLT, Int.reduceEq, Int.reduceLT, Int.reduceLE, Int.reduceAdd, Int.reduceSub, Int.reduceNeg, reduceCtorEq, Nat.reduceShiftRight, Nat.reduceAnd, Nat.reduceBNe, h1, rem_u64, hm, hw, hr, vapp_one0 (bytes := 4) (i := 0) (L := [.cells [.int .u32 (n : Int)]]) hr (by simp) rfl (by unfold limit; omega), quo_u64 (show n ≤ 18446744073709551615 by omega), hq]
    rw [W_loop]
    simp only [go_sem, ↓reduceIte, Nat.reduceMod, Nat.reduceEqDiff, Nat.reduceAdd, Nat.reduceMul, Nat.reduceSub, Nat.reduceLeDiff, Nat.reduceLT, Int.reduceEq, Int.reduceLT, Int.reduceLE, Int.reduceAdd, Int.reduceSub, Int.reduceNeg, reduceCtorEq, Nat.reduceShiftRight, Nat.reduceAnd, Nat.reduceBNe]
    refine settled_fz (ext_Sx hr (by simp)) (fz_own (L := [.cells [.int .u32 (n : Int)], .cells [.int .u32 (n : Int)]]) hr (by simp) (i := 1) rfl ?_)
    intro c hc; simp at hc; subst hc; exact ov_int _ _ _
/-- A number as an integer. -/
def zOf (n : Int) : Z := ⟨decide (n < 0), lims n.natAbs⟩
theorem lims_ne {n : Nat} (h : n ≠ 0) : lims n ≠ [] := by
  intro e; have := val_lims n; rw [e] at this; exact h this.symm
theorem zOf_is (n : Int) : zIs (zOf n) = true := by
  unfold zIs zOf
  simp only [lims_is, Bool.true_and, Bool.or_eq_true, Bool.not_eq_true', decide_eq_false_iff_not, decide_eq_true_eq]
  by_cases h : n < 0
  · right; exact lims_ne (by omega)
  · left; exact h
theorem Of_ok (s : St) (n : Int) (hr : Room s) (hs : s.n.val ≤ 59000) (hn : -1000000000 < n ∧ n < 1000000000) : ∃ r, CA F.ref1_Of [.int .i64 n] s = .ok (.agg [.bool (zOf n).neg, r]) s ∧ ∀ t, Nats t r (zOf n).mag := by
  have hx := ext_Sx (s := s) (l := [.cells [.bool false, .nils]]) hr (by simp)
  obtain ⟨r, h1, h2⟩ := natOf_ok (Sx s [.cells [.bool false, .nils]]) n.natAbs (hr.Sx (by simp; omega) (by simp)) (by omega)
  refine ⟨r, ?_, h2⟩
  unfold zOf
  by_cases c : n < 0
  · have e1 : IntKind.wrap .u64 (-(IntKind.wrap .u64 n)) = ((n.natAbs : Nat) : Int) := by
      simp only [IntKind.wrap, IntKind.bits, IntKind.signed]
      simp
      omega
    have h3 := ref1_sign_ok (Sx s [.cells [.bool false, .nils]]) true r _ (hr.Sx (by simp; omega) (by simp)) (h2 _)
    have e2 : (true && decide (lims n.natAbs ≠ [])) = true := by simp; exact lims_ne (by omega)
    rw [e2] at h3
    refine fn_of code_ref1_Of (by simp) ?_
    simp only [go_sem, ↓reduceIte, Nat.reduceMod, Nat.reduceEqDiff, Nat.reduceAdd, Nat.reduceMul, Nat.reduceSub, Nat.reduceLeDiff, Nat.reduceLT, Int.reduceEq, Int.reduceLT, Int.reduceLE, Int.reduceAdd, Int.reduceSub, Int.reduceNeg, reduceCtorEq, Nat.reduceShiftRight, Nat.reduceAnd, Nat.reduceBNe, hr, c, e1, h1, h3]
    exact settled_ov (ext_Sx hr (by simp)) (ov2 (ov_bool _ _) (h2 s).sl.ov)
  · have e1 : IntKind.wrap .u64 n = ((n.natAbs : Nat) : Int) := by rw [wrap_u64 (by omega) (by omega)]; omega
    refine fn_of code_ref1_Of (by simp) ?_
    simp only [go_sem, ↓reduceIte, Nat.reduceMod, Nat.reduceEqDiff, Nat.reduceAdd, Nat.reduceMul, Nat.reduceSub, Nat.reduceLeDiff, Nat.reduceLT, Int.reduceEq, Int.reduceLT, Int.reduceLE, Int.reduceAdd, Int.reduceSub, Int.reduceNeg, reduceCtorEq, Nat.reduceShiftRight, Nat.reduceAnd, Nat.reduceBNe, hr, c, e1, h1, (h2 s).one]
    exact settled_ov (ext_Sx hr (by simp)) (ov2 (ov_bool _ _) (h2 s).sl.ov)
theorem num_ok (s : St) (n : Int) (hr : Room s) (hs : s.n.val ≤ 58000) (hn : -1000000000 < n ∧ n < 1000000000) : ∃ cs, CA F.law10_num [.int .i64 n] s = .ok (.agg cs) s ∧ ∀ t, RT6 t cs (.mk 1 (zOf n) [] 2 []) := by
  have hx := ext_Sx (s := s) (l := [.cells [.int .i64 0, .bool false, .nils, .str [], .int .i64 0, .nils]]) hr (by simp)
  obtain ⟨r, h1, h2⟩ := Of_ok (Sx s [.cells [.int .i64 0, .bool false, .nils, .str [], .int .i64 0, .nils]]) n (hr.Sx (by simp; omega) (by simp)) (by rw [Sx_n hr (by simp)]; simp; omega) hn
  refine ⟨[.int .i64 1, .bool (zOf n).neg, r, .str [], .int .i64 2, .nils], ?_, fun t => num_rep ⟨rfl, h2 t⟩⟩
  refine fn_of code_law10_num (by simp) ?_
  simp only [go_sem, ↓reduceIte, Nat.reduceMod, Nat.reduceEqDiff, Nat.reduceAdd, Nat.reduceMul, Nat.reduceSub, Nat.reduceLeDiff, Nat.reduceLT, Int.reduceEq, Int.reduceLT, Int.reduceLE, Int.reduceAdd, Int.reduceSub, Int.reduceNeg, reduceCtorEq, Nat.reduceShiftRight, Nat.reduceAnd, Nat.reduceBNe, hr, h1, splice1_2]
  exact settled_ov (ext_Sx hr (by simp)) (ov_agg (rt6_ov (num_rep ⟨rfl, h2 s⟩)))
theorem con_rep (s : St) (l : List UInt8) (k : Int) : RT6 s [.int .i64 4, .bool false, .nils, .str l, .int .i64 k, .nils] (.mk 4 ⟨false, []⟩ l k []) := ⟨_, _, .nils, rfl, ⟨rfl, nats_nil s⟩, ts_nil s⟩
theorem con_ok (s : St) (l : List UInt8) (k : Int) (hr : Room s) : CA F.law10_con [.str l, .int .i64 k] s = .ok (.agg [.int .i64 4, .bool false, .nils, .str l, .int .i64 k, .nils]) s := by
  refine fn_of code_law10_con (by simp) ?_
  simp only [go_sem, ↓reduceIte, Nat.reduceMod, Nat.reduceEqDiff, Nat.reduceAdd, Nat.reduceMul, Nat.reduceSub, Nat.reduceLeDiff, Nat.reduceLT, Int.reduceEq, Int.reduceLT, Int.reduceLE, Int.reduceAdd, Int.reduceSub, Int.reduceNeg, reduceCtorEq, Nat.reduceShiftRight, Nat.reduceAnd, Nat.reduceBNe, hr]
  exact settled_ov (ext_Sx hr (by simp)) (ov_agg (rt6_ov (con_rep s l k)))
/-- What is made is a term. -/
theorem isT_make {op : Int} {l : List T} (h : makeE op l = 0) : isT (.mk op ⟨false, []⟩ [] (resSort op l) l) = true := by
  unfold makeE at h
  by_cases c1 : madeB op = false
  · rw [if_pos c1] at h; omega
  rw [if_neg c1] at h
  by_cases c2 : kidsOk op l.length = false
  · rw [if_pos c2] at h; omega
  rw [if_neg c2] at h
  by_cases c3 : l.all isT = false
  · rw [if_pos c3] at h; omega
  rw [if_neg c3, check_le] at h
  by_cases c4 : wrongE op l ≠ 0
  · rw [if_pos c4] at h; exact absurd h c4
  rw [if_neg c4] at h
  by_cases c5 : 400 < 1 + T.sizes l
  · rw [if_pos c5] at h; omega
  have c4' : wrongE op l = 0 := Decidable.not_not.mp c4
  have c1' : madeB op = true := by simpa using c1
  have c2' : kidsOk op l.length = true := by simpa using c2
  have c3' : l.all isT = true := by simpa using c3
  have hns : isNs l = true := by
    rw [isNs_all, List.all_eq_true]
    intro t ht
    have := List.all_eq_true.mp c3' t ht
    unfold isT at this
    rw [Bool.and_eq_true] at this
    exact this.2
  have hop : 5 ≤ op ∧ op ≤ 22 := by unfold madeB at c1'; simpa using c1'
  unfold isT
  rw [isN_eq]
  have hsz : (T.mk op ⟨false, []⟩ [] (resSort op l) l).size = 1 + T.sizes l := T.size_kids _
  rw [hsz, show decide (1 + T.sizes l ≤ 400) = true by simp; omega, show isNs (T.mk op ⟨false, []⟩ [] (resSort op l) l).kids = true from hns]
  unfold nodeOk
  simp only [T.op, T.n, T.name, T.sort, T.kids, plainB]
  rw [if_neg (by omega), if_neg (by omega), if_neg (by omega), c1', c2']
  simp [c4']
end Go.Proofs.Ytjnejkganejdbaa
namespace Go.Proofs.Ytjnejkganejdbaa
open Go Go.Vm
set_option linter.unusedVariables false
set_option linter.unusedSimpArgs false
def tNum (n : Int) : T := .mk 1 (zOf n) [] 2 []
def tNeg (n : Int) : T := .mk 14 ⟨false, []⟩ [] 2 [tNum n]
def tX : T := .mk 4 ⟨false, []⟩ [120] 2 []
theorem lin_made {op : Int} {a b : T} (ho : op = 15 ∨ op = 16 ∨ op = 17) (ha : isT a = true) (hb : isT b = true) (sa : a.sort = 2) (sb : b.sort = 2) (hs : a.size + b.size ≤ 300) : makeE op [a, b] = linE op [a, b] := by
  have h1 : madeB op = true := by unfold madeB; simp; omega
  have h2 : kidsOk op (([a, b] : List T).length : Int) = true := by
    unfold kidsOk
    rw [if_neg (by omega), if_pos (by omega)]; rfl
  have h3 : ([a, b] : List T).all isT = true := by simp [ha, hb]
  have h4 : sortsOk op [a, b] = true := by
    unfold sortsOk
    rw [if_neg (by omega), if_neg (by omega), if_neg (by omega)]
    simp [allS, sa, sb]
  have h5 : ¬ 400 < 1 + T.sizes [a, b] := by simp only [T.sizes]; omega
  unfold makeE
  rw [h1, h2, h3, check_le, if_neg h5]
  unfold wrongE
  rw [h4]
  simp
  intro h; exact h.symm
theorem num_isT (n : Int) : isT (tNum n) = true := by
  have := zOf_is n
  unfold isT tNum
  rw [isN_eq]
  simp [T.size, T.sizes, T.kids, isNs, nodeOk, T.op, T.n, T.name, T.sort, this]
theorem neg_made (n : Int) : makeE 14 [tNum n] = 0 := by
  have h3 : ([tNum n] : List T).all isT = true := by simp [num_isT]
  have h4 : sortsOk 14 [tNum n] = true := by simp [sortsOk, allS, tNum, T.sort]
  unfold makeE
  rw [h3, check_le]
  have h5 : ¬ 400 < 1 + T.sizes [tNum n] := by simp [T.sizes, tNum, T.size]
  rw [if_neg h5]
  unfold wrongE
  rw [h4]
  simp [madeB, kidsOk, linE]
theorem neg_isT (n : Int) : isT (tNeg n) = true := by
  have h := isT_make (neg_made n)
  have e : resSort 14 [tNum n] = 2 := by simp [resSort]
  rw [e] at h; exact h
theorem negT (n : Int) : makeT 14 [tNum n] = tNeg n := by
  unfold makeT
  rw [if_pos (neg_made n)]
  have e : resSort 14 [tNum n] = 2 := by simp [resSort]
  rw [e]; rfl
theorem x_isT : isT tX = true := by
  have h1 : symOk [120] = true := by decide
  unfold isT tX
  rw [isN_eq]
  simp [T.size, T.sizes, T.kids, isNs, nodeOk, T.op, T.n, T.name, T.sort, sigOk, h1, sortB]
theorem x_num : isNum tX = false := by simp [isNum, tX, T.op]
theorem num_num (n : Int) : isNum (tNum n) = true := by simp [isNum, tNum, T.op]
theorem neg_num (n : Int) : isNum (tNeg n) = true := by simp [isNum, tNum, tNeg, T.op, T.kids]
theorem zh_of {z : Z} (h : zIs z = true) : zh z = z := by unfold zh; rw [if_pos h]
theorem lims_eq_nil {n : Nat} : lims n = [] ↔ n = 0 := ⟨fun h => Decidable.byContradiction fun hn => lims_ne hn h, fun h => by rw [h, lims_0]⟩
theorem zsign_of {z : Z} (h : zIs z = true) : zsign z = 0 ↔ z.mag = [] := by
  unfold zsign
  rw [zh_of h]
  by_cases c : z.mag = []
  · simp [c]
  · rw [if_neg c]
    constructor
    · intro e; split at e <;> omega
    · intro e; exact absurd e c
theorem num_sign (n : Int) : zsign (numZ (tNum n)) = 0 ↔ n = 0 := by
  have e : numZ (tNum n) = zOf n := by simp [numZ, tNum, T.op, T.n]
  rw [e, zsign_of (zOf_is n)]
  unfold zOf
  rw [lims_eq_nil]; omega
theorem neg_sign (n : Int) : zsign (numZ (tNeg n)) = 0 ↔ n = 0 := by
  have e : numZ (tNeg n) = zneg (zOf n) := by
    have := neg_num n
    unfold numZ
    rw [this]
    simp [tNeg, tNum, T.op, T.kids, T.n]
  have h2 : zIs (zneg (zOf n)) = true := by
    unfold zneg
    rw [zh_of (zOf_is n)]
    have h3 : natIs (zOf n).mag = true := lims_is _
    unfold zIs
    simp only [h3, Bool.true_and]
    by_cases c : (zOf n).mag = []
    · simp [c]
    · simp [c]
  rw [e, zsign_of h2]
  show (zh (zOf n)).mag = [] ↔ _
  rw [zh_of (zOf_is n)]
  unfold zOf
  rw [lims_eq_nil]; omega
theorem rz1 {s : St} {o so : Int} {a b e : AV} {nm : List UInt8} {t : T} (h : RT6 s [.int .i64 o, a, b, .str nm, .int .i64 so, e] t) : a.one = true ∧ b.one = true ∧ e.one = true := by
  obtain ⟨q1, q2, q3, hq, hz, hk⟩ := h.ex
  simp only [List.cons.injEq] at hq
  obtain ⟨_, rfl, rfl, _, _, rfl, _⟩ := hq
  exact ⟨hz.one.1, hz.one.2, hk.one⟩
theorem lims_len1 {n : Nat} (h : n < 1000000000) : (lims n).length ≤ 1 := by
  by_cases h0 : n = 0
  · rw [h0, lims_0]; simp
  · rw [lims_one h0 h]; simp
theorem tNum_tame (n : Int) (h : -32768 ≤ n ∧ n ≤ 32767) : (tNum n).tame := by
  have := lims_len1 (n := n.natAbs) (by omega)
  exact ⟨by show (lims n.natAbs).length ≤ _; omega, by simp, trivial⟩
theorem tX_tame : tX.tame := ⟨by simp, by simp, trivial⟩
theorem splice0_12 (a0 a1 a2 a3 a4 a5 z0 z1 z2 z3 z4 z5 z6 z7 z8 z9 z10 z11 : AV) : splice 0 [a0, a1, a2, a3, a4, a5] [z0, z1, z2, z3, z4, z5, z6, z7, z8, z9, z10, z11] = [a0, a1, a2, a3, a4, a5, z6, z7, z8, z9, z10, z11] := rfl
theorem splice6_12 (a0 a1 a2 a3 a4 a5 z0 z1 z2 z3 z4 z5 z6 z7 z8 z9 z10 z11 : AV) : splice 6 [a0, a1, a2, a3, a4, a5] [z0, z1, z2, z3, z4, z5, z6, z7, z8, z9, z10, z11] = [z0, z1, z2, z3, z4, z5, a0, a1, a2, a3, a4, a5] := rfl
theorem row_lit {s : St} {L : List AO} (hr : Room s) (hl : L.length ≤ 5000) {i n : Nat} {cs : List AV} (hi : L[i]? = some (.cells cs)) (hn : n ≤ limit) (cap ex : Nat) : rowOf (Sx s L) (.sl (nm s i) 0 n cap ex) = cs := (isl_lit hr hl hi hn cap ex).2.1
end Go.Proofs.Ytjnejkganejdbaa
