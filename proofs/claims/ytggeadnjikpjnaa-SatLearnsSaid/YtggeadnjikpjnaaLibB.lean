/- A solver as it lies in memory. No condition. -/
import Derived.Test.YtggeadnjikpjnaaLibA
import Derived.Test.YtggeadnjikpjnaaVmW
namespace Go.Vm
set_option linter.unusedVariables false
/-- The block that a slice lies in. -/
noncomputable def ids (a : AV) : List Id := a.onSl [] [] (fun b _ _ _ _ => [b]) (fun _ _ _ _ => [])
/-- A row of one's own that has grown. -/
inductive OwS (σ : St) : AV → List AV → Prop where
  | nils : OwS σ .nils []
  | sl (i : Id) (len cap : Nat) (cs : List AV) (h : σ.obj i = .cells cs) (h1 : len ≤ cap) (h2 : cap ≤ cs.length) (h3 : 0 < cap) (h4 : len ≤ limit) : OwS σ (.sl i 0 len cap 1) (cs.take len)
theorem OwS.frame {σ σ' : St} {a : AV} {xs : List AV} (h : OwS σ a xs) (hf : ∀ i ∈ ids a, σ'.obj i = σ.obj i) : OwS σ' a xs := by
  cases h with
  | nils => exact .nils
  | sl i len cap cs h h1 h2 h3 h4 => exact .sl i len cap cs (by rw [hf i (List.mem_singleton.mpr rfl)]; exact h) h1 h2 h3 h4
theorem OwS.len {σ : St} {a : AV} {xs : List AV} (h : OwS σ a xs) : lenOf a = xs.length := by
  cases h with
  | nils => rfl
  | sl i len cap cs h h1 h2 h3 h4 => show len = (cs.take len).length; rw [List.length_take]; omega
theorem OwS.vlen {σ : St} {a : AV} {xs : List AV} (h : OwS σ a xs) (t : St) : vlen a t = .ok (.int .i64 (xs.length : Int)) t := by
  rw [← h.len]; cases h <;> rfl
theorem OwS.one {σ : St} {a : AV} {xs : List AV} (h : OwS σ a xs) : a.one = true := by cases h <;> rfl
theorem OwS.nod {σ : St} {a : AV} {xs : List AV} (h : OwS σ a xs) : (ids a).Nodup := by cases h <;> simp [ids, AV.onSl]
theorem OwS.most {σ : St} {a : AV} {xs : List AV} (h : OwS σ a xs) : xs.length ≤ 140737488355328 := by
  rw [← h.len]
  cases h with
  | nils => exact Nat.zero_le _
  | sl i len cap cs h h1 h2 h3 h4 => exact h4
/-- An element's place; what lies there. -/
theorem OwS.ia {σ : St} {a : AV} {xs : List AV} (h : OwS σ a xs) {k : Nat} (hk : k < xs.length) (j : IntKind) (t : St) : ∃ i, a = .sl i 0 (lenOf a) (a.onSl 0 0 (fun _ _ _ c _ => c) fun _ _ _ _ => 0) 1 ∧ viaddr 1 a (.int j (k : Int)) t = .ok (.ptr i k) t ∧ ∃ cs, σ.obj i = .cells cs ∧ cs[k]? = xs[k]? := by
  cases h with
  | nils => simp at hk
  | sl i len cap cs h h1 h2 h3 h4 =>
    have hl : (cs.take len).length = len := by rw [List.length_take]; omega
    refine ⟨i, rfl, ?_, cs, h, by rw [List.getElem?_take_of_lt (by omega)]⟩
    have := viaddr_sl (k := j) (b := i) (o := 0) (len := len) (cap := cap) (ex := 1) (i := k) (by omega) t
    rw [Nat.zero_add] at this; exact this
theorem St.lt_of_obj {σ : St} (hr : Room σ) {i : Id} {cs : List AV} (h : σ.obj i = .cells cs) : i.val < σ.n.val := by
  apply Nat.lt_of_not_le; intro hle
  rw [hr.clean i hle] at h; cases h
theorem St.lt_of_map {σ : St} (hr : Room σ) {i : Id} {cs : List (AV × AV)} (h : σ.obj i = .map cs) : i.val < σ.n.val := by
  apply Nat.lt_of_not_le; intro hle
  rw [hr.clean i hle] at h; cases h
theorem Room.push {σ : St} (hr : Room σ) (o : AO) : Room (σ.push o) := ⟨Nat.zero_le _, fun c hc => by
  rw [push_n] at hc
  rw [push_obj, if_neg (fun e => by rw [e] at hc; omega)]
  exact hr.clean c (by omega)⟩
/-- One more at the end. -/
theorem OwS.app {σ : St} {a : AV} {xs : List AV} (h : OwS σ a xs) (hr : Room σ) {y : Id} {x : AV} (hy : σ.obj y = .cells [x]) (bytes : Nat) (hb : (xs.length + 1) * bytes ≤ limit) (hm : xs.length + 1 ≤ limit) :
    ∃ (a' : AV) (σ' : St) (i : Id), vapp 1 bytes a (.sl y 0 1 1 0) σ = .ok a' σ' ∧ OwS σ' a' (xs ++ [x]) ∧ Room σ' ∧ σ.n.val ≤ σ'.n.val ∧ ids a' = [i] ∧ i.val < σ'.n.val ∧ (i ∈ ids a ∨ i = σ.n) ∧ ∀ c, c ∉ ids a → c.val < σ.n.val → σ'.obj c = σ.obj c := by
  have hsy : IsSl σ (.sl y 0 1 1 0) := .sl y 0 1 1 0 [x] (by unfold limit; omega) hy (St.lt_of_obj hr hy) (by simp)
  have hro : rowOf σ (.sl y 0 1 1 0) = [x] := by show (σ.obj y).row.drop 0 = [x]; rw [hy]; rfl
  cases h with
  | nils =>
    refine ⟨.sl σ.n 0 1 1 1, σ.push (.cells [x]), σ.n, ?_, .sl σ.n 1 1 [x] (push_self σ _) (by omega) (by simp) (by omega) (by unfold limit; omega), hr.push _, by rw [push_n]; omega, rfl, by rw [push_n]; omega, .inr rfl, fun c _ hc => push_old hc⟩
    unfold vapp
    rw [srcOf_sl hsy (by rw [hro]; simp [lenOf, AV.onSl])]
    rw [hro]
    show grown σ 1 bytes 1 [x] = _
    show br (Nat.ble (1 * bytes) limit) (br (Nat.ble 1 limit) (σ.alloc (.cells [x]) fun b s => .ok (.sl b 0 1 1 1) s) .no) .no = _
    rw [ble_t (by simpa using hb), ble_t (by unfold limit; omega), alloc_push]; rfl
  | sl i len cap cs h h1 h2 h3 h4 =>
    have hl : (cs.take len).length = len := by rw [List.length_take]; omega
    rw [hl] at hb hm
    have hi := St.lt_of_obj hr h
    unfold vapp
    rw [srcOf_sl hsy (by rw [hro]; simp [lenOf, AV.onSl]), hro]
    by_cases hc : len + 1 ≤ cap
    · refine ⟨.sl i 0 (len + 1) cap 1, σ.put i (.cells (cs.set len x)), i, ?_, ?_, hr.put hi _, by rw [put_n]; omega, rfl, by rw [put_n]; exact hi, .inl (List.mem_singleton.mpr rfl), fun c hc _ => ?_⟩
      · show (σ.obj i).onCells R.no _ = _
        rw [h]
        show br (Nat.ble (0 + cap * 1) (ln cs)) (br (Nat.ble (len + 1) cap) (R.ok (.sl i 0 (len + 1) cap 1) (σ.put i (.cells (splice (0 + len * 1) [x] cs)))) _) .no = _
        rw [ln_eq, ble_t (by omega), ble_t hc, splice_one, Nat.zero_add, Nat.mul_one]; rfl
      · have := OwS.sl (σ := σ.put i (.cells (cs.set len x))) i (len + 1) cap (cs.set len x) (put_self _ _ _) hc (by rw [List.length_set]; exact h2) h3 hm
        have e : (cs.set len x).take (len + 1) = cs.take len ++ [x] := by
          rw [List.take_add_one, List.take_set_of_le (Nat.le_refl _), List.getElem?_set_self (by omega)]; rfl
        rw [e] at this; exact this
      · rw [St.obj_put, if_neg]; intro e; subst e; exact hc (List.mem_singleton.mpr rfl)
    · have hcl : cap = len := by omega
      subst hcl
      refine ⟨.sl σ.n 0 (cap + 1) (cap + 1) 1, (σ.put i .dead).push (.cells (cs.take cap ++ [x])), σ.n, ?_, ?_, (hr.put hi _).push _, by rw [push_n, put_n]; omega, rfl, by rw [push_n, put_n]; omega, .inr rfl, fun c hc hcn => ?_⟩
      · show (σ.obj i).onCells R.no _ = _
        rw [h]
        show br (Nat.ble (0 + cap * 1) (ln cs)) (br (Nat.ble (cap + 1) cap) _ (br (Nat.beq 1 0) _ (br (Nat.beq 1 1) (grown (σ.put i .dead) 1 bytes (cap + 1) (apd (tk (cap * 1) (dr 0 cs)) [x])) .no))) .no = _
        rw [ln_eq, ble_t (by omega), ble_f (by omega)]
        show grown (σ.put i .dead) 1 bytes (cap + 1) (apd (tk (cap * 1) (dr 0 cs)) [x]) = _
        rw [apd_eq, tk_eq, dr_eq, List.drop_zero, Nat.mul_one]
        show br (Nat.ble ((cap + 1) * bytes) limit) (br (Nat.ble (cap + 1) limit) ((σ.put i .dead).alloc (.cells (cs.take cap ++ [x])) fun b s => .ok (.sl b 0 (cap + 1) (cap + 1) 1) s) .no) .no = _
        rw [ble_t hb, ble_t hm, alloc_push, put_n]; rfl
      · have hlen : (cs.take cap ++ [x]).length = cap + 1 := by rw [List.length_append, hl]; rfl
        have ho : ((σ.put i .dead).push (.cells (cs.take cap ++ [x]))).obj σ.n = .cells (cs.take cap ++ [x]) := by rw [push_obj, put_n, if_pos rfl]
        have := OwS.sl σ.n (cap + 1) (cap + 1) (cs.take cap ++ [x]) ho (Nat.le_refl _) (by rw [hlen]; exact Nat.le_refl _) (by omega) hm
        rw [List.take_of_length_le (l := cs.take cap ++ [x]) (by rw [hlen]; exact Nat.le_refl _)] at this
        exact this
      · rw [push_old (by rw [put_n]; exact hcn), St.obj_put, if_neg]; intro e; subst e; exact hc (List.mem_singleton.mpr rfl)
/-- A clause as it is kept. -/
def tsI (c : List Int) : AV := .ts (c.map (.int .i64)) c.length c.length false
structure Fx where
  v : Id
  le : Id
  re : Id
  m : Id
/-- What a solver holds. -/
structure SV where
  n : Nat
  val : List Int
  lev : List Int
  rea : List Int
  tr : List Int
  st : List Int
  cl : List (List Int)
  inn : List (Int × List Int)
  done : Nat
  closed : Bool
def lookI : List (Int × List Int) → Int → List Int
  | [], _ => []
  | p :: l, k => if k = p.1 then p.2 else lookI l k
def updI : List (Int × List Int) → Int → List Int → List (Int × List Int)
  | [], k, xs => [(k, xs)]
  | p :: l, k, xs => if k = p.1 then (k, xs) :: l else p :: updI l k xs
def SV.sD (X : SV) (d : Nat) : SV := {X with done := d}
theorem SV.sD_n (X : SV) (d : Nat) : (X.sD d).n = X.n := rfl
theorem SV.sD_val (X : SV) (d : Nat) : (X.sD d).val = X.val := rfl
theorem SV.sD_lev (X : SV) (d : Nat) : (X.sD d).lev = X.lev := rfl
theorem SV.sD_rea (X : SV) (d : Nat) : (X.sD d).rea = X.rea := rfl
theorem SV.sD_tr (X : SV) (d : Nat) : (X.sD d).tr = X.tr := rfl
theorem SV.sD_st (X : SV) (d : Nat) : (X.sD d).st = X.st := rfl
theorem SV.sD_cl (X : SV) (d : Nat) : (X.sD d).cl = X.cl := rfl
theorem SV.sD_inn (X : SV) (d : Nat) : (X.sD d).inn = X.inn := rfl
theorem SV.sD_done (X : SV) (d : Nat) : (X.sD d).done = d := rfl
theorem SV.sD_closed (X : SV) (d : Nat) : (X.sD d).closed = X.closed := rfl
def SV.sC (X : SV) (c : Bool) : SV := {X with closed := c}
theorem SV.sC_n (X : SV) (c : Bool) : (X.sC c).n = X.n := rfl
theorem SV.sC_val (X : SV) (c : Bool) : (X.sC c).val = X.val := rfl
theorem SV.sC_lev (X : SV) (c : Bool) : (X.sC c).lev = X.lev := rfl
theorem SV.sC_rea (X : SV) (c : Bool) : (X.sC c).rea = X.rea := rfl
theorem SV.sC_tr (X : SV) (c : Bool) : (X.sC c).tr = X.tr := rfl
theorem SV.sC_st (X : SV) (c : Bool) : (X.sC c).st = X.st := rfl
theorem SV.sC_cl (X : SV) (c : Bool) : (X.sC c).cl = X.cl := rfl
theorem SV.sC_inn (X : SV) (c : Bool) : (X.sC c).inn = X.inn := rfl
theorem SV.sC_done (X : SV) (c : Bool) : (X.sC c).done = X.done := rfl
theorem SV.sC_closed (X : SV) (c : Bool) : (X.sC c).closed = c := rfl
def SV.sV (X : SV) (k : Nat) (x : Int) : SV := {X with val := X.val.set k x}
theorem SV.sV_n (X : SV) (k : Nat) (x : Int) : (X.sV k x).n = X.n := rfl
theorem SV.sV_val (X : SV) (k : Nat) (x : Int) : (X.sV k x).val = X.val.set k x := rfl
theorem SV.sV_lev (X : SV) (k : Nat) (x : Int) : (X.sV k x).lev = X.lev := rfl
theorem SV.sV_rea (X : SV) (k : Nat) (x : Int) : (X.sV k x).rea = X.rea := rfl
theorem SV.sV_tr (X : SV) (k : Nat) (x : Int) : (X.sV k x).tr = X.tr := rfl
theorem SV.sV_st (X : SV) (k : Nat) (x : Int) : (X.sV k x).st = X.st := rfl
theorem SV.sV_cl (X : SV) (k : Nat) (x : Int) : (X.sV k x).cl = X.cl := rfl
theorem SV.sV_inn (X : SV) (k : Nat) (x : Int) : (X.sV k x).inn = X.inn := rfl
theorem SV.sV_done (X : SV) (k : Nat) (x : Int) : (X.sV k x).done = X.done := rfl
theorem SV.sV_closed (X : SV) (k : Nat) (x : Int) : (X.sV k x).closed = X.closed := rfl
def SV.sL (X : SV) (k : Nat) (x : Int) : SV := {X with lev := X.lev.set k x}
theorem SV.sL_n (X : SV) (k : Nat) (x : Int) : (X.sL k x).n = X.n := rfl
theorem SV.sL_val (X : SV) (k : Nat) (x : Int) : (X.sL k x).val = X.val := rfl
theorem SV.sL_lev (X : SV) (k : Nat) (x : Int) : (X.sL k x).lev = X.lev.set k x := rfl
theorem SV.sL_rea (X : SV) (k : Nat) (x : Int) : (X.sL k x).rea = X.rea := rfl
theorem SV.sL_tr (X : SV) (k : Nat) (x : Int) : (X.sL k x).tr = X.tr := rfl
theorem SV.sL_st (X : SV) (k : Nat) (x : Int) : (X.sL k x).st = X.st := rfl
theorem SV.sL_cl (X : SV) (k : Nat) (x : Int) : (X.sL k x).cl = X.cl := rfl
theorem SV.sL_inn (X : SV) (k : Nat) (x : Int) : (X.sL k x).inn = X.inn := rfl
theorem SV.sL_done (X : SV) (k : Nat) (x : Int) : (X.sL k x).done = X.done := rfl
theorem SV.sL_closed (X : SV) (k : Nat) (x : Int) : (X.sL k x).closed = X.closed := rfl
def SV.sR (X : SV) (k : Nat) (x : Int) : SV := {X with rea := X.rea.set k x}
theorem SV.sR_n (X : SV) (k : Nat) (x : Int) : (X.sR k x).n = X.n := rfl
theorem SV.sR_val (X : SV) (k : Nat) (x : Int) : (X.sR k x).val = X.val := rfl
theorem SV.sR_lev (X : SV) (k : Nat) (x : Int) : (X.sR k x).lev = X.lev := rfl
theorem SV.sR_rea (X : SV) (k : Nat) (x : Int) : (X.sR k x).rea = X.rea.set k x := rfl
theorem SV.sR_tr (X : SV) (k : Nat) (x : Int) : (X.sR k x).tr = X.tr := rfl
theorem SV.sR_st (X : SV) (k : Nat) (x : Int) : (X.sR k x).st = X.st := rfl
theorem SV.sR_cl (X : SV) (k : Nat) (x : Int) : (X.sR k x).cl = X.cl := rfl
theorem SV.sR_inn (X : SV) (k : Nat) (x : Int) : (X.sR k x).inn = X.inn := rfl
theorem SV.sR_done (X : SV) (k : Nat) (x : Int) : (X.sR k x).done = X.done := rfl
theorem SV.sR_closed (X : SV) (k : Nat) (x : Int) : (X.sR k x).closed = X.closed := rfl
def SV.aT (X : SV) (x : Int) : SV := {X with tr := X.tr ++ [x]}
theorem SV.aT_n (X : SV) (x : Int) : (X.aT x).n = X.n := rfl
theorem SV.aT_val (X : SV) (x : Int) : (X.aT x).val = X.val := rfl
theorem SV.aT_lev (X : SV) (x : Int) : (X.aT x).lev = X.lev := rfl
theorem SV.aT_rea (X : SV) (x : Int) : (X.aT x).rea = X.rea := rfl
theorem SV.aT_tr (X : SV) (x : Int) : (X.aT x).tr = X.tr ++ [x] := rfl
theorem SV.aT_st (X : SV) (x : Int) : (X.aT x).st = X.st := rfl
theorem SV.aT_cl (X : SV) (x : Int) : (X.aT x).cl = X.cl := rfl
theorem SV.aT_inn (X : SV) (x : Int) : (X.aT x).inn = X.inn := rfl
theorem SV.aT_done (X : SV) (x : Int) : (X.aT x).done = X.done := rfl
theorem SV.aT_closed (X : SV) (x : Int) : (X.aT x).closed = X.closed := rfl
def SV.aS (X : SV) (x : Int) : SV := {X with st := X.st ++ [x]}
theorem SV.aS_n (X : SV) (x : Int) : (X.aS x).n = X.n := rfl
theorem SV.aS_val (X : SV) (x : Int) : (X.aS x).val = X.val := rfl
theorem SV.aS_lev (X : SV) (x : Int) : (X.aS x).lev = X.lev := rfl
theorem SV.aS_rea (X : SV) (x : Int) : (X.aS x).rea = X.rea := rfl
theorem SV.aS_tr (X : SV) (x : Int) : (X.aS x).tr = X.tr := rfl
theorem SV.aS_st (X : SV) (x : Int) : (X.aS x).st = X.st ++ [x] := rfl
theorem SV.aS_cl (X : SV) (x : Int) : (X.aS x).cl = X.cl := rfl
theorem SV.aS_inn (X : SV) (x : Int) : (X.aS x).inn = X.inn := rfl
theorem SV.aS_done (X : SV) (x : Int) : (X.aS x).done = X.done := rfl
theorem SV.aS_closed (X : SV) (x : Int) : (X.aS x).closed = X.closed := rfl
def SV.aL (X : SV) (c : List Int) : SV := {X with cl := X.cl ++ [c]}
theorem SV.aL_n (X : SV) (c : List Int) : (X.aL c).n = X.n := rfl
theorem SV.aL_val (X : SV) (c : List Int) : (X.aL c).val = X.val := rfl
theorem SV.aL_lev (X : SV) (c : List Int) : (X.aL c).lev = X.lev := rfl
theorem SV.aL_rea (X : SV) (c : List Int) : (X.aL c).rea = X.rea := rfl
theorem SV.aL_tr (X : SV) (c : List Int) : (X.aL c).tr = X.tr := rfl
theorem SV.aL_st (X : SV) (c : List Int) : (X.aL c).st = X.st := rfl
theorem SV.aL_cl (X : SV) (c : List Int) : (X.aL c).cl = X.cl ++ [c] := rfl
theorem SV.aL_inn (X : SV) (c : List Int) : (X.aL c).inn = X.inn := rfl
theorem SV.aL_done (X : SV) (c : List Int) : (X.aL c).done = X.done := rfl
theorem SV.aL_closed (X : SV) (c : List Int) : (X.aL c).closed = X.closed := rfl
def SV.aE (X : SV) (k x : Int) : SV := {X with inn := updI X.inn k (lookI X.inn k ++ [x])}
theorem SV.aE_n (X : SV) (k x : Int) : (X.aE k x).n = X.n := rfl
theorem SV.aE_val (X : SV) (k x : Int) : (X.aE k x).val = X.val := rfl
theorem SV.aE_lev (X : SV) (k x : Int) : (X.aE k x).lev = X.lev := rfl
theorem SV.aE_rea (X : SV) (k x : Int) : (X.aE k x).rea = X.rea := rfl
theorem SV.aE_tr (X : SV) (k x : Int) : (X.aE k x).tr = X.tr := rfl
theorem SV.aE_st (X : SV) (k x : Int) : (X.aE k x).st = X.st := rfl
theorem SV.aE_cl (X : SV) (k x : Int) : (X.aE k x).cl = X.cl := rfl
theorem SV.aE_inn (X : SV) (k x : Int) : (X.aE k x).inn = updI X.inn k (lookI X.inn k ++ [x]) := rfl
theorem SV.aE_done (X : SV) (k x : Int) : (X.aE k x).done = X.done := rfl
theorem SV.aE_closed (X : SV) (k x : Int) : (X.aE k x).closed = X.closed := rfl
attribute [go_sem] SV.sD_n SV.sD_val SV.sD_lev SV.sD_rea SV.sD_tr SV.sD_st SV.sD_cl SV.sD_inn SV.sD_done SV.sD_closed SV.sC_n SV.sC_val SV.sC_lev SV.sC_rea SV.sC_tr SV.sC_st SV.sC_cl SV.sC_inn SV.sC_done SV.sC_closed SV.sV_n SV.sV_val SV.sV_lev SV.sV_rea SV.sV_tr SV.sV_st SV.sV_cl SV.sV_inn SV.sV_done SV.sV_closed SV.sL_n SV.sL_val SV.sL_lev SV.sL_rea SV.sL_tr SV.sL_st SV.sL_cl SV.sL_inn SV.sL_done SV.sL_closed SV.sR_n SV.sR_val SV.sR_lev SV.sR_rea SV.sR_tr SV.sR_st SV.sR_cl SV.sR_inn SV.sR_done SV.sR_closed SV.aT_n SV.aT_val SV.aT_lev SV.aT_rea SV.aT_tr SV.aT_st SV.aT_cl SV.aT_inn SV.aT_done SV.aT_closed SV.aS_n SV.aS_val SV.aS_lev SV.aS_rea SV.aS_tr SV.aS_st SV.aS_cl SV.aS_inn SV.aS_done SV.aS_closed SV.aL_n SV.aL_val SV.aL_lev SV.aL_rea SV.aL_tr SV.aL_st SV.aL_cl SV.aL_inn SV.aL_done SV.aL_closed SV.aE_n SV.aE_val SV.aE_lev SV.aE_rea SV.aE_tr SV.aE_st SV.aE_cl SV.aE_inn SV.aE_done SV.aE_closed
noncomputable def eids (es : List (AV × AV)) : List Id := es.flatMap fun e => ids e.2
/-- The blocks of a solver. -/
noncomputable def foot (b : Id) (F : Fx) (tv sv lv : AV) (es : List (AV × AV)) : List Id := b :: F.v :: F.le :: F.re :: F.m :: (ids tv ++ (ids sv ++ (ids lv ++ eids es)))
/-- Entries by numbers. -/
def Ents (σ : St) : List (AV × AV) → List (Int × List Int) → Prop
  | [], [] => True
  | e :: es, p :: l => e.1 = .int .i64 p.1 ∧ OwS σ e.2 (p.2.map (.int .i64)) ∧ Ents σ es l
  | _, _ => False
theorem Ents.frame {σ σ' : St} {es : List (AV × AV)} : ∀ {l : List (Int × List Int)}, Ents σ es l → (∀ i ∈ eids es, σ'.obj i = σ.obj i) → Ents σ' es l := by
  induction es with
  | nil => intro l h _; cases l with
    | nil => exact h
    | cons p l => exact h
  | cons e es ih =>
    intro l h hf
    cases l with
    | nil => exact h
    | cons p l => exact ⟨h.1, h.2.1.frame fun i hi => hf i (List.mem_flatMap.mpr ⟨e, List.mem_cons_self, hi⟩), ih h.2.2 fun i hi => hf i (by
        obtain ⟨d, hd, hi⟩ := List.mem_flatMap.mp hi
        exact List.mem_flatMap.mpr ⟨d, List.mem_cons_of_mem _ hd, hi⟩)⟩
noncomputable def solC (F : Fx) (tv sv lv : AV) (X : SV) : List AV := [.sl F.v 0 (X.n + 1) (X.n + 1) 0, .sl F.le 0 (X.n + 1) (X.n + 1) 0, .sl F.re 0 (X.n + 1) (X.n + 1) 0, tv, sv, .int .i64 (X.n : Int), lv, .map F.m, .int .i64 (X.done : Int), .bool X.closed]
/-- A solver of one's own: behind what a state had. -/
structure Sol0 (s σ : St) (b : Id) (F : Fx) (tv sv lv : AV) (es : List (AV × AV)) (X : SV) : Prop where
  room : Room σ
  ext : Ext s σ
  ob : σ.obj b = .cells (solC F tv sv lv X)
  ov : σ.obj F.v = .cells (X.val.map (.int .i8))
  ole : σ.obj F.le = .cells (X.lev.map (.int .i64))
  ore : σ.obj F.re = .cells (X.rea.map (.int .i64))
  om : σ.obj F.m = .map es
  ht : OwS σ tv (X.tr.map (.int .i64))
  hs : OwS σ sv (X.st.map (.int .i64))
  hl : OwS σ lv (X.cl.map tsI)
  he : Ents σ es X.inn
  nd : (foot b F tv sv lv es).Nodup
  ge : ∀ i ∈ foot b F tv sv lv es, s.n.val ≤ i.val ∧ i.val < σ.n.val
  lv1 : X.val.length = X.n + 1
  lv2 : X.lev.length = X.n + 1
  lv3 : X.rea.length = X.n + 1
  bd : ∀ v ∈ X.val, -1 ≤ v ∧ v ≤ 1
def Sol (s σ : St) (b : Id) (F : Fx) (X : SV) : Prop := ∃ tv sv lv es, Sol0 s σ b F tv sv lv es X
section
variable {s σ : St} {b : Id} {F : Fx} {tv sv lv : AV} {es : List (AV × AV)} {X : SV}
/-- Other blocks play no part. -/
theorem Sol0.frame (h : Sol0 s σ b F tv sv lv es X) {σ' : St} (hr : Room σ') (hx : Ext s σ') (hn : σ.n.val ≤ σ'.n.val) (hf : ∀ i ∈ foot b F tv sv lv es, σ'.obj i = σ.obj i) : Sol0 s σ' b F tv sv lv es X := by
  have f0 := hf b (by simp [foot])
  have f1 := hf F.v (by simp [foot])
  have f2 := hf F.le (by simp [foot])
  have f3 := hf F.re (by simp [foot])
  have f4 := hf F.m (by simp [foot])
  exact ⟨hr, hx, f0.trans h.ob, f1.trans h.ov, f2.trans h.ole, f3.trans h.ore, f4.trans h.om, h.ht.frame fun i hi => hf i (by simp [foot, hi]), h.hs.frame fun i hi => hf i (by simp [foot, hi]), h.hl.frame fun i hi => hf i (by simp [foot, hi]), h.he.frame fun i hi => hf i (by simp [foot, hi]), h.nd, fun i hi => ⟨(h.ge i hi).1, Nat.lt_of_lt_of_le (h.ge i hi).2 hn⟩, h.lv1, h.lv2, h.lv3, h.bd⟩
theorem Sol0.push (h : Sol0 s σ b F tv sv lv es X) (o : AO) : Sol0 s (σ.push o) b F tv sv lv es X :=
  h.frame (h.room.push o) (h.ext.push o) (by rw [push_n]; omega) fun i hi => push_old (h.ge i hi).2
theorem Sol0.sx (h : Sol0 s σ b F tv sv lv es X) {l : List AO} (hl : l.length ≤ 5000) : Sol0 s (Sx σ l) b F tv sv lv es X :=
  h.frame (h.room.sx hl) (h.ext.trans (ext_Sx h.room hl)) (by rw [Sx_n h.room hl]; omega) fun i hi => Sx_old h.room hl (h.ge i hi).2
/-- A block that is nobody's. -/
theorem Sol0.put (h : Sol0 s σ b F tv sv lv es X) {c : Id} (hc : c.val < σ.n.val) (hs : s.n.val ≤ c.val) (hn : c ∉ foot b F tv sv lv es) (o : AO) : Sol0 s (σ.put c o) b F tv sv lv es X :=
  h.frame (h.room.put hc o) (h.ext.put hs o) (by rw [put_n]; omega) fun i hi => by rw [St.obj_put, if_neg]; intro e; subst e; exact hn hi
theorem Sol0.bge (h : Sol0 s σ b F tv sv lv es X) : s.n.val ≤ b.val ∧ b.val < σ.n.val := h.ge b (by simp [foot])
/-- A field that is a number, or a truth. -/
theorem Sol0.fld (h : Sol0 s σ b F tv sv lv es X) {d : Nat} {c : Bool} : Sol0 s (σ.put b (.cells (solC F tv sv lv ((X.sD d).sC c)))) b F tv sv lv es ((X.sD d).sC c) := by
  have nd := h.nd
  have hb := h.bge
  have hf : ∀ i ∈ foot b F tv sv lv es, i ≠ b → (σ.put b (.cells (solC F tv sv lv ((X.sD d).sC c)))).obj i = σ.obj i := fun i hi hne => by rw [St.obj_put, if_neg hne]
  have hne : ∀ i ∈ (F.v :: F.le :: F.re :: F.m :: (ids tv ++ (ids sv ++ (ids lv ++ eids es)))), i ≠ b := fun i hi e => by subst e; exact (List.nodup_cons.mp nd).1 hi
  have hg : ∀ i ∈ (F.v :: F.le :: F.re :: F.m :: (ids tv ++ (ids sv ++ (ids lv ++ eids es)))), (σ.put b (.cells (solC F tv sv lv ((X.sD d).sC c)))).obj i = σ.obj i := fun i hi => hf i (List.mem_cons_of_mem _ hi) (hne i hi)
  refine ⟨h.room.put hb.2 _, h.ext.put hb.1 _, put_self _ _ _, (hg _ (by simp)).trans h.ov, (hg _ (by simp)).trans h.ole, (hg _ (by simp)).trans h.ore, (hg _ (by simp)).trans h.om, h.ht.frame fun i hi => hg i (by simp [hi]), h.hs.frame fun i hi => hg i (by simp [hi]), h.hl.frame fun i hi => hg i (by simp [hi]), h.he.frame fun i hi => hg i (by simp [hi]), h.nd, fun i hi => by rw [put_n]; exact h.ge i hi, h.lv1, h.lv2, h.lv3, h.bd⟩
theorem Sol0.setDone (h : Sol0 s σ b F tv sv lv es X) (d : Nat) : ∃ σ', vstore 1 (.ptr b 8) (.int .i64 (d : Int)) σ = .ok undef σ' ∧ Sol0 s σ' b F tv sv lv es (X.sD d) := ⟨_, vstore_el h.ob rfl (by simp [solC]), h.fld (d := d) (c := X.closed)⟩
theorem Sol0.setClosed (h : Sol0 s σ b F tv sv lv es X) (c : Bool) : ∃ σ', vstore 1 (.ptr b 9) (.bool c) σ = .ok undef σ' ∧ Sol0 s σ' b F tv sv lv es (X.sC c) := ⟨_, vstore_el h.ob rfl (by simp [solC]), h.fld (d := X.done) (c := c)⟩
/-- Values, levels, reasons. -/
theorem Sol0.setV (h : Sol0 s σ b F tv sv lv es X) {k : Nat} (hk : k ≤ X.n) (x : Int) (hx : -1 ≤ x ∧ x ≤ 1) : ∃ σ', vstore 1 (.ptr F.v k) (.int .i8 x) σ = .ok undef σ' ∧ Sol0 s σ' b F tv sv lv es (X.sV k x) := by
  have nd := h.nd
  have hb := h.ge F.v (by simp [foot])
  refine ⟨_, vstore_el h.ov rfl (by rw [List.length_map, h.lv1]; omega), ?_⟩
  have hg : ∀ i ∈ (b :: F.le :: F.re :: F.m :: (ids tv ++ (ids sv ++ (ids lv ++ eids es)))), (σ.put F.v (.cells ((X.val.map (.int .i8)).set k (.int .i8 x)))).obj i = σ.obj i := fun i hi => by
    rw [St.obj_put, if_neg]
    intro e; subst e
    simp only [foot, List.nodup_cons, List.mem_cons] at nd hi
    grind
  exact ⟨h.room.put hb.2 _, h.ext.put hb.1 _, (hg _ (by simp)).trans h.ob, by rw [put_self, SV.sV_val, List.map_set], (hg _ (by simp)).trans h.ole, (hg _ (by simp)).trans h.ore, (hg _ (by simp)).trans h.om, h.ht.frame fun i hi => hg i (by simp [hi]), h.hs.frame fun i hi => hg i (by simp [hi]), h.hl.frame fun i hi => hg i (by simp [hi]), h.he.frame fun i hi => hg i (by simp [hi]), h.nd, fun i hi => by rw [put_n]; exact h.ge i hi, by rw [SV.sV_val, List.length_set]; exact h.lv1, h.lv2, h.lv3, fun v hv => by rcases List.mem_or_eq_of_mem_set hv with hv | hv; exact h.bd v hv; rw [hv]; exact hx⟩
theorem Sol0.setL (h : Sol0 s σ b F tv sv lv es X) {k : Nat} (hk : k ≤ X.n) (x : Int) : ∃ σ', vstore 1 (.ptr F.le k) (.int .i64 x) σ = .ok undef σ' ∧ Sol0 s σ' b F tv sv lv es (X.sL k x) := by
  have nd := h.nd
  have hb := h.ge F.le (by simp [foot])
  refine ⟨_, vstore_el h.ole rfl (by rw [List.length_map, h.lv2]; omega), ?_⟩
  have hg : ∀ i ∈ (b :: F.v :: F.re :: F.m :: (ids tv ++ (ids sv ++ (ids lv ++ eids es)))), (σ.put F.le (.cells ((X.lev.map (.int .i64)).set k (.int .i64 x)))).obj i = σ.obj i := fun i hi => by
    rw [St.obj_put, if_neg]
    intro e; subst e
    simp only [foot, List.nodup_cons, List.mem_cons] at nd hi
    grind
  exact ⟨h.room.put hb.2 _, h.ext.put hb.1 _, (hg _ (by simp)).trans h.ob, (hg _ (by simp)).trans h.ov, by rw [put_self, SV.sL_lev, List.map_set], (hg _ (by simp)).trans h.ore, (hg _ (by simp)).trans h.om, h.ht.frame fun i hi => hg i (by simp [hi]), h.hs.frame fun i hi => hg i (by simp [hi]), h.hl.frame fun i hi => hg i (by simp [hi]), h.he.frame fun i hi => hg i (by simp [hi]), h.nd, fun i hi => by rw [put_n]; exact h.ge i hi, h.lv1, by rw [SV.sL_lev, List.length_set]; exact h.lv2, h.lv3, h.bd⟩
theorem Sol0.setR (h : Sol0 s σ b F tv sv lv es X) {k : Nat} (hk : k ≤ X.n) (x : Int) : ∃ σ', vstore 1 (.ptr F.re k) (.int .i64 x) σ = .ok undef σ' ∧ Sol0 s σ' b F tv sv lv es (X.sR k x) := by
  have nd := h.nd
  have hb := h.ge F.re (by simp [foot])
  refine ⟨_, vstore_el h.ore rfl (by rw [List.length_map, h.lv3]; omega), ?_⟩
  have hg : ∀ i ∈ (b :: F.v :: F.le :: F.m :: (ids tv ++ (ids sv ++ (ids lv ++ eids es)))), (σ.put F.re (.cells ((X.rea.map (.int .i64)).set k (.int .i64 x)))).obj i = σ.obj i := fun i hi => by
    rw [St.obj_put, if_neg]
    intro e; subst e
    simp only [foot, List.nodup_cons, List.mem_cons] at nd hi
    grind
  exact ⟨h.room.put hb.2 _, h.ext.put hb.1 _, (hg _ (by simp)).trans h.ob, (hg _ (by simp)).trans h.ov, (hg _ (by simp)).trans h.ole, by rw [put_self, SV.sR_rea, List.map_set], (hg _ (by simp)).trans h.om, h.ht.frame fun i hi => hg i (by simp [hi]), h.hs.frame fun i hi => hg i (by simp [hi]), h.hl.frame fun i hi => hg i (by simp [hi]), h.he.frame fun i hi => hg i (by simp [hi]), h.nd, fun i hi => by rw [put_n]; exact h.ge i hi, h.lv1, h.lv2, by rw [SV.sR_rea, List.length_set]; exact h.lv3, h.bd⟩
/-- What is as it was may be told of the state before. -/
theorem Sol0.old (h : Sol0 s σ b F tv sv lv es X) {σ' : St} {tv' sv' lv' : AV} {es' : List (AV × AV)} {X' : SV} (h' : Sol0 s σ' b F tv' sv' lv' es' X') (ho : Old σ σ') : Sol0 s σ b F tv sv lv es X' := by
  have hs : ∀ i ∈ foot b F tv sv lv es, σ.obj i = σ'.obj i := fun i hi => (ho i (h.ge i hi).2).symm
  have e1 : solC F tv sv lv X = solC F tv' sv' lv' X' := by
    have := hs b (by simp [foot])
    rw [h.ob, h'.ob] at this
    injection this
  have e2 : es = es' := by
    have := hs F.m (by simp [foot])
    rw [h.om, h'.om] at this
    injection this
  subst e2
  have ob := h.ob
  rw [e1] at ob
  have q3 : tv = tv' := by simp only [solC, List.cons.injEq] at e1; exact e1.2.2.2.1
  have q4 : sv = sv' := by simp only [solC, List.cons.injEq] at e1; exact e1.2.2.2.2.1
  have q5 : lv = lv' := by simp only [solC, List.cons.injEq] at e1; exact e1.2.2.2.2.2.2.1
  subst q3 q4 q5
  exact ⟨h.room, h.ext, ob, (hs _ (by simp [foot])).trans h'.ov, (hs _ (by simp [foot])).trans h'.ole, (hs _ (by simp [foot])).trans h'.ore, h.om, h'.ht.frame fun i hi => hs i (by simp [foot, hi]), h'.hs.frame fun i hi => hs i (by simp [foot, hi]), h'.hl.frame fun i hi => hs i (by simp [foot, hi]), h'.he.frame fun i hi => hs i (by simp [foot, hi]), h.nd, h.ge, h'.lv1, h'.lv2, h'.lv3, h'.bd⟩
end
end Go.Vm
namespace Go.Vm
set_option linter.unusedVariables false
section
variable {s σ : St} {b : Id} {F : Fx} {tv sv lv : AV} {es : List (AV × AV)} {X : SV}
theorem Sol0.appT (h : Sol0 s σ b F tv sv lv es X) {y : Id} {x : Int} (hy : σ.obj y = .cells [.int .i64 x]) (hlen : X.tr.length + 1 ≤ 1000000000000) : ∃ (tv' : AV) (σ1 σ2 : St), vapp 1 8 tv (.sl y 0 1 1 0) σ = .ok tv' σ1 ∧ vstore 1 (.ptr b 3) tv' σ1 = .ok undef σ2 ∧ Sol0 s σ2 b F tv' sv lv es (X.aT x) := by
  have nd := h.nd
  have hb := h.bge
  obtain ⟨a', σ1, i0, e1, o1, r1, n1, d1, l1, m1, f1⟩ := h.ht.app h.room hy 8 (by rw [List.length_map]; unfold limit; omega) (by rw [List.length_map]; unfold limit; omega)
  have hbt : b ∉ ids tv := by simp only [foot, List.nodup_cons, List.mem_cons, List.mem_append] at nd; grind
  have ob1 : σ1.obj b = .cells (solC F tv sv lv X) := by rw [f1 b hbt hb.2]; exact h.ob
  have hx1 : Ext s σ1 := ⟨Nat.le_trans h.ext.n n1, fun c hc => by
    rw [f1 c (fun hm => by have := (h.ge c (by simp [foot, hm])).1; omega) (by have := h.ext.n; omega)]; exact h.ext.old c hc⟩
  have hb1 : b.val < σ1.n.val := by omega
  have hi0 : s.n.val ≤ i0.val ∧ (i0 ∈ ids tv ∨ i0 ∉ foot b F tv sv lv es) := by
    rcases m1 with m1 | m1
    · exact ⟨(h.ge i0 (by simp [foot, m1])).1, .inl m1⟩
    · exact ⟨by have := h.ext.n; rw [m1]; exact this, .inr fun hm => by have := (h.ge i0 hm).2; rw [m1] at this; omega⟩
  refine ⟨a', σ1, _, e1, vstore_el ob1 o1.one (by simp [solC]), ?_⟩
  have hg : ∀ i ∈ (F.v :: F.le :: F.re :: F.m :: (ids sv ++ (ids lv ++ eids es))), (σ1.put b (.cells ((solC F tv sv lv X).set 3 a'))).obj i = σ.obj i := fun i hi => by
    have hfi : i ∈ foot b F tv sv lv es := by simp only [foot, List.mem_cons, List.mem_append] at hi ⊢; grind
    have hne : i ≠ b ∧ i ∉ ids tv := by
      simp only [foot, List.nodup_cons, List.nodup_append, List.mem_cons, List.mem_append] at nd hi
      grind
    rw [St.obj_put, if_neg hne.1, f1 i hne.2 (h.ge i hfi).2]
  have hbi : b ≠ i0 := fun e => by
    rcases hi0.2 with q | q
    · rw [← e] at q; exact hbt q
    · apply q; rw [← e]; simp [foot]
  have hnew : ∀ i ∈ ids a', (σ1.put b (.cells ((solC F tv sv lv X).set 3 a'))).obj i = σ1.obj i := fun i hi => by
    rw [d1, List.mem_singleton] at hi
    rw [St.obj_put, if_neg]; rw [hi]; exact fun e => hbi e.symm
  refine ⟨r1.put hb1 _, hx1.put hb.1 _, by rw [put_self]; rfl, (hg _ (by simp)).trans h.ov, (hg _ (by simp)).trans h.ole, (hg _ (by simp)).trans h.ore, (hg _ (by simp)).trans h.om, (by have := o1.frame hnew; simpa [SV.aT_tr, SV.aS_st, SV.aL_cl] using this), h.hs.frame fun i hi => hg i (by simp [hi]), h.hl.frame fun i hi => hg i (by simp [hi]), h.he.frame fun i hi => hg i (by simp [hi]), ?_, fun i hi => ?_, h.lv1, h.lv2, h.lv3, h.bd⟩
  · have hi2 := hi0.2
    simp only [foot, d1, List.nodup_cons, List.nodup_append, List.mem_cons, List.mem_append, List.not_mem_nil] at nd hi2 ⊢
    grind
  · rw [put_n]
    have hi2 : i = i0 ∨ i ∈ foot b F tv sv lv es := by
      simp only [foot, d1, List.mem_cons, List.mem_append, List.not_mem_nil] at hi ⊢; grind
    rcases hi2 with rfl | hi2
    · exact ⟨hi0.1, l1⟩
    · exact ⟨(h.ge i hi2).1, Nat.lt_of_lt_of_le (h.ge i hi2).2 n1⟩
theorem Sol0.appS (h : Sol0 s σ b F tv sv lv es X) {y : Id} {x : Int} (hy : σ.obj y = .cells [.int .i64 x]) (hlen : X.st.length + 1 ≤ 1000000000000) : ∃ (sv' : AV) (σ1 σ2 : St), vapp 1 8 sv (.sl y 0 1 1 0) σ = .ok sv' σ1 ∧ vstore 1 (.ptr b 4) sv' σ1 = .ok undef σ2 ∧ Sol0 s σ2 b F tv sv' lv es (X.aS x) := by
  have nd := h.nd
  have hb := h.bge
  obtain ⟨a', σ1, i0, e1, o1, r1, n1, d1, l1, m1, f1⟩ := h.hs.app h.room hy 8 (by rw [List.length_map]; unfold limit; omega) (by rw [List.length_map]; unfold limit; omega)
  have hbt : b ∉ ids sv := by simp only [foot, List.nodup_cons, List.mem_cons, List.mem_append] at nd; grind
  have ob1 : σ1.obj b = .cells (solC F tv sv lv X) := by rw [f1 b hbt hb.2]; exact h.ob
  have hx1 : Ext s σ1 := ⟨Nat.le_trans h.ext.n n1, fun c hc => by
    rw [f1 c (fun hm => by have := (h.ge c (by simp [foot, hm])).1; omega) (by have := h.ext.n; omega)]; exact h.ext.old c hc⟩
  have hb1 : b.val < σ1.n.val := by omega
  have hi0 : s.n.val ≤ i0.val ∧ (i0 ∈ ids sv ∨ i0 ∉ foot b F tv sv lv es) := by
    rcases m1 with m1 | m1
    · exact ⟨(h.ge i0 (by simp [foot, m1])).1, .inl m1⟩
    · exact ⟨by have := h.ext.n; rw [m1]; exact this, .inr fun hm => by have := (h.ge i0 hm).2; rw [m1] at this; omega⟩
  refine ⟨a', σ1, _, e1, vstore_el ob1 o1.one (by simp [solC]), ?_⟩
  have hg : ∀ i ∈ (F.v :: F.le :: F.re :: F.m :: (ids tv ++ (ids lv ++ eids es))), (σ1.put b (.cells ((solC F tv sv lv X).set 4 a'))).obj i = σ.obj i := fun i hi => by
    have hfi : i ∈ foot b F tv sv lv es := by simp only [foot, List.mem_cons, List.mem_append] at hi ⊢; grind
    have hne : i ≠ b ∧ i ∉ ids sv := by
      simp only [foot, List.nodup_cons, List.nodup_append, List.mem_cons, List.mem_append] at nd hi
      grind
    rw [St.obj_put, if_neg hne.1, f1 i hne.2 (h.ge i hfi).2]
  have hbi : b ≠ i0 := fun e => by
    rcases hi0.2 with q | q
    · rw [← e] at q; exact hbt q
    · apply q; rw [← e]; simp [foot]
  have hnew : ∀ i ∈ ids a', (σ1.put b (.cells ((solC F tv sv lv X).set 4 a'))).obj i = σ1.obj i := fun i hi => by
    rw [d1, List.mem_singleton] at hi
    rw [St.obj_put, if_neg]; rw [hi]; exact fun e => hbi e.symm
  refine ⟨r1.put hb1 _, hx1.put hb.1 _, by rw [put_self]; rfl, (hg _ (by simp)).trans h.ov, (hg _ (by simp)).trans h.ole, (hg _ (by simp)).trans h.ore, (hg _ (by simp)).trans h.om, h.ht.frame fun i hi => hg i (by simp [hi]), (by have := o1.frame hnew; simpa [SV.aT_tr, SV.aS_st, SV.aL_cl] using this), h.hl.frame fun i hi => hg i (by simp [hi]), h.he.frame fun i hi => hg i (by simp [hi]), ?_, fun i hi => ?_, h.lv1, h.lv2, h.lv3, h.bd⟩
  · have hi2 := hi0.2
    simp only [foot, d1, List.nodup_cons, List.nodup_append, List.mem_cons, List.mem_append, List.not_mem_nil] at nd hi2 ⊢
    grind
  · rw [put_n]
    have hi2 : i = i0 ∨ i ∈ foot b F tv sv lv es := by
      simp only [foot, d1, List.mem_cons, List.mem_append, List.not_mem_nil] at hi ⊢; grind
    rcases hi2 with rfl | hi2
    · exact ⟨hi0.1, l1⟩
    · exact ⟨(h.ge i hi2).1, Nat.lt_of_lt_of_le (h.ge i hi2).2 n1⟩
theorem Sol0.appL (h : Sol0 s σ b F tv sv lv es X) {y : Id} {x : List Int} (hy : σ.obj y = .cells [tsI x]) (hlen : X.cl.length + 1 ≤ 1000000000000) : ∃ (lv' : AV) (σ1 σ2 : St), vapp 1 24 lv (.sl y 0 1 1 0) σ = .ok lv' σ1 ∧ vstore 1 (.ptr b 6) lv' σ1 = .ok undef σ2 ∧ Sol0 s σ2 b F tv sv lv' es (X.aL x) := by
  have nd := h.nd
  have hb := h.bge
  obtain ⟨a', σ1, i0, e1, o1, r1, n1, d1, l1, m1, f1⟩ := h.hl.app h.room hy 24 (by rw [List.length_map]; unfold limit; omega) (by rw [List.length_map]; unfold limit; omega)
  have hbt : b ∉ ids lv := by simp only [foot, List.nodup_cons, List.mem_cons, List.mem_append] at nd; grind
  have ob1 : σ1.obj b = .cells (solC F tv sv lv X) := by rw [f1 b hbt hb.2]; exact h.ob
  have hx1 : Ext s σ1 := ⟨Nat.le_trans h.ext.n n1, fun c hc => by
    rw [f1 c (fun hm => by have := (h.ge c (by simp [foot, hm])).1; omega) (by have := h.ext.n; omega)]; exact h.ext.old c hc⟩
  have hb1 : b.val < σ1.n.val := by omega
  have hi0 : s.n.val ≤ i0.val ∧ (i0 ∈ ids lv ∨ i0 ∉ foot b F tv sv lv es) := by
    rcases m1 with m1 | m1
    · exact ⟨(h.ge i0 (by simp [foot, m1])).1, .inl m1⟩
    · exact ⟨by have := h.ext.n; rw [m1]; exact this, .inr fun hm => by have := (h.ge i0 hm).2; rw [m1] at this; omega⟩
  refine ⟨a', σ1, _, e1, vstore_el ob1 o1.one (by simp [solC]), ?_⟩
  have hg : ∀ i ∈ (F.v :: F.le :: F.re :: F.m :: (ids tv ++ (ids sv ++ eids es))), (σ1.put b (.cells ((solC F tv sv lv X).set 6 a'))).obj i = σ.obj i := fun i hi => by
    have hfi : i ∈ foot b F tv sv lv es := by simp only [foot, List.mem_cons, List.mem_append] at hi ⊢; grind
    have hne : i ≠ b ∧ i ∉ ids lv := by
      simp only [foot, List.nodup_cons, List.nodup_append, List.mem_cons, List.mem_append] at nd hi
      grind
    rw [St.obj_put, if_neg hne.1, f1 i hne.2 (h.ge i hfi).2]
  have hbi : b ≠ i0 := fun e => by
    rcases hi0.2 with q | q
    · rw [← e] at q; exact hbt q
    · apply q; rw [← e]; simp [foot]
  have hnew : ∀ i ∈ ids a', (σ1.put b (.cells ((solC F tv sv lv X).set 6 a'))).obj i = σ1.obj i := fun i hi => by
    rw [d1, List.mem_singleton] at hi
    rw [St.obj_put, if_neg]; rw [hi]; exact fun e => hbi e.symm
  refine ⟨r1.put hb1 _, hx1.put hb.1 _, by rw [put_self]; rfl, (hg _ (by simp)).trans h.ov, (hg _ (by simp)).trans h.ole, (hg _ (by simp)).trans h.ore, (hg _ (by simp)).trans h.om, h.ht.frame fun i hi => hg i (by simp [hi]), h.hs.frame fun i hi => hg i (by simp [hi]), (by have := o1.frame hnew; simpa [SV.aT_tr, SV.aS_st, SV.aL_cl] using this), h.he.frame fun i hi => hg i (by simp [hi]), ?_, fun i hi => ?_, h.lv1, h.lv2, h.lv3, h.bd⟩
  · have hi2 := hi0.2
    simp only [foot, d1, List.nodup_cons, List.nodup_append, List.mem_cons, List.mem_append, List.not_mem_nil] at nd hi2 ⊢
    grind
  · rw [put_n]
    have hi2 : i = i0 ∨ i ∈ foot b F tv sv lv es := by
      simp only [foot, d1, List.mem_cons, List.mem_append, List.not_mem_nil] at hi ⊢; grind
    rcases hi2 with rfl | hi2
    · exact ⟨hi0.1, l1⟩
    · exact ⟨(h.ge i hi2).1, Nat.lt_of_lt_of_le (h.ge i hi2).2 n1⟩
end
/-! ### Entries -/
theorem look_updI (l : List (Int × List Int)) (k : Int) (xs : List Int) (j : Int) : lookI (updI l k xs) j = if j = k then xs else lookI l j := by
  induction l with
  | nil => simp only [updI, lookI]
  | cons p l ih =>
    simp only [updI]
    by_cases h : k = p.1
    · rw [if_pos h]
      simp only [lookI]
      by_cases h2 : j = k
      · rw [if_pos h2, if_pos h2]
      · rw [if_neg h2, if_neg h2, if_neg (by rw [← h]; exact h2)]
    · rw [if_neg h]
      simp only [lookI]
      rw [ih]
      by_cases h2 : j = p.1
      · rw [if_pos h2, if_pos h2, if_neg (by rw [h2]; exact fun e => h e.symm)]
      · rw [if_neg h2, if_neg h2]
theorem keyEq_int (p q : Int) (d y n : R) : keyEq (.int .i64 p) (.int .i64 q) d y n = if p = q then y else n := by
  show br (keq .i64 .i64) (br (ieq p q) y n) d = _
  rw [(keq_iff .i64 .i64).mpr rfl, ieq_eq]
  by_cases h : p = q
  · rw [if_pos h, show (p == q) = true by simp [h]]; rfl
  · rw [if_neg h, show (p == q) = false by simp [h]]; rfl
theorem ents_upd {σ : St} {es : List (AV × AV)} : ∀ {l : List (Int × List Int)}, Ents σ es l → ∀ (k : Int), ∃ (a : AV) (E1 E2 : List Id) (es' : AV → List (AV × AV)), OwS σ a ((lookI l k).map (.int .i64)) ∧
    (∀ t : St, mget es (.int .i64 k) (.ok .nils t) (fun v => .ok v t) = .ok a t) ∧ eids es = E1 ++ (ids a ++ E2) ∧
    ∀ a', (∀ c : List (AV × AV) → R, mput es (.int .i64 k) a' c = c (es' a')) ∧ eids (es' a') = E1 ++ (ids a' ++ E2) ∧ ∀ (σ' : St) (xs' : List Int), OwS σ' a' (xs'.map (.int .i64)) → (∀ i ∈ E1 ++ E2, σ'.obj i = σ.obj i) → Ents σ' (es' a') (updI l k xs') := by
  induction es with
  | nil =>
    intro l h k
    cases l with
    | cons p l => exact h.elim
    | nil => exact ⟨.nils, [], [], fun a' => [(.int .i64 k, a')], .nils, fun t => rfl, rfl, fun a' => ⟨fun c => rfl, by simp [eids], fun σ' xs' h1 _ => ⟨rfl, h1, trivial⟩⟩⟩
  | cons e es ih =>
    intro l h k
    cases l with
    | nil => exact h.elim
    | cons p l =>
      obtain ⟨h1, h2, h3⟩ := h
      obtain ⟨e1, e2⟩ := e
      simp only at h1 h2
      subst h1
      by_cases hk : k = p.1
      · refine ⟨e2, [], eids es, fun a' => (.int .i64 k, a') :: es, ?_, fun t => ?_, rfl, fun a' => ⟨fun c => ?_, rfl, fun σ' xs' g1 g2 => ?_⟩⟩
        · simp only [lookI]; rw [if_pos hk]; exact h2
        · show keyEq (.int .i64 k) (.int .i64 p.1) .no _ _ = _
          rw [keyEq_int, if_pos hk]
        · show keyEq (.int .i64 k) (.int .i64 p.1) .no _ _ = _
          rw [keyEq_int, if_pos hk]
        · simp only [updI]; rw [if_pos hk]
          exact ⟨rfl, g1, h3.frame fun i hi => g2 i (by simpa using hi)⟩
      · obtain ⟨a, E1, E2, es', q1, q2, q3, q4⟩ := ih h3 k
        refine ⟨a, ids e2 ++ E1, E2, fun a' => (.int .i64 p.1, e2) :: es' a', ?_, fun t => ?_, ?_, fun a' => ⟨fun c => ?_, ?_, fun σ' xs' g1 g2 => ?_⟩⟩
        · simp only [lookI]; rw [if_neg hk]; exact q1
        · show keyEq (.int .i64 k) (.int .i64 p.1) .no _ _ = _
          rw [keyEq_int, if_neg hk]; exact q2 t
        · show ids e2 ++ eids es = _
          rw [q3, List.append_assoc]
        · show keyEq (.int .i64 k) (.int .i64 p.1) .no _ _ = _
          rw [keyEq_int, if_neg hk]; exact (q4 a').1 _
        · show ids e2 ++ eids (es' a') = _
          rw [(q4 a').2.1, List.append_assoc]
        · simp only [updI]; rw [if_neg hk]
          exact ⟨rfl, h2.frame fun i hi => g2 i (by simp [hi]), (q4 a').2.2 σ' xs' g1 fun i hi => g2 i (by simp only [List.append_assoc, List.mem_append] at hi ⊢; exact .inr hi)⟩
section
variable {s σ : St} {b : Id} {F : Fx} {tv sv lv : AV} {es : List (AV × AV)} {X : SV}
theorem nd_repl {α : Type} {A B B' C : List α} (h : (A ++ (B ++ C)).Nodup) (h1 : B'.Nodup) (h2 : ∀ i ∈ B', i ∈ B ∨ i ∉ A ++ (B ++ C)) : (A ++ (B' ++ C)).Nodup := by
  simp only [List.nodup_append, List.mem_append] at *
  grind
theorem vlookup_int {m : Id} (h : σ.obj m = .map es) (k : Int) : vlookup false .nils (.map m) (.int .i64 k) false σ = mget es (.int .i64 k) (.ok .nils σ) (fun v => .ok v σ) := by
  show (σ.obj m).onMap R.no (fun es => mget es (.int .i64 k) (looked false false .nils σ) fun v => looked false true v σ) = _
  rw [h]; rfl
theorem vmupd_int {m : Id} (h : σ.obj m = .map es) (k : Int) (v : AV) : vmupd false (.map m) (.int .i64 k) v σ = mput es (.int .i64 k) v fun es => .ok undef (σ.put m (.map es)) := by
  show (σ.obj m).onMap R.no (fun es => mput es (.int .i64 k) v fun es => .ok undef (σ.put m (.map es))) = _
  rw [h]; rfl
theorem Sol0.lookE (h : Sol0 s σ b F tv sv lv es X) (k : Int) : ∃ a, vlookup false .nils (.map F.m) (.int .i64 k) false σ = .ok a σ ∧ OwS σ a ((lookI X.inn k).map (.int .i64)) ∧ (∀ i ∈ ids a, i ∈ eids es) := by
  obtain ⟨a, E1, E2, es', q1, q2, q3, q4⟩ := ents_upd h.he k
  exact ⟨a, by rw [vlookup_int h.om]; exact q2 σ, q1, fun i hi => by rw [q3]; simp [hi]⟩
/-- One more for a literal. -/
theorem Sol0.appE (h : Sol0 s σ b F tv sv lv es X) (k : Int) : ∃ a, vlookup false .nils (.map F.m) (.int .i64 k) false σ = .ok a σ ∧ ∀ (τ : St), (∀ i ∈ foot b F tv sv lv es, τ.obj i = σ.obj i) → Room τ → Ext s τ → σ.n.val ≤ τ.n.val → ∀ {y : Id} {x : Int}, τ.obj y = .cells [.int .i64 x] → (lookI X.inn k).length + 1 ≤ 1000000000000 →
    ∃ (a' : AV) (σ1 σ2 : St) (es' : List (AV × AV)), vapp 1 8 a (.sl y 0 1 1 0) τ = .ok a' σ1 ∧ vmupd false (.map F.m) (.int .i64 k) a' σ1 = .ok undef σ2 ∧ (∀ i, i = b ∨ i = F.m → σ1.obj i = τ.obj i) ∧ Sol0 s σ2 b F tv sv lv es' (X.aE k x) := by
  have nd := h.nd
  obtain ⟨a, E1, E2, es', q1, q2, q3, q4⟩ := ents_upd h.he k
  refine ⟨a, by rw [vlookup_int h.om]; exact q2 σ, fun τ hfr hrt hxt hnt y x hy hlen => ?_⟩
  have hτ := h.frame hrt hxt hnt hfr
  have q1' : OwS τ a ((lookI X.inn k).map (.int .i64)) := q1.frame fun i hi => hfr i (by simp only [foot, List.mem_cons, List.mem_append, q3]; simp [hi])
  obtain ⟨a', σ1, i0, e1, o1, r1, n1, d1, l1, m1, f1⟩ := q1'.app hrt hy 8 (by rw [List.length_map]; unfold limit; omega) (by rw [List.length_map]; unfold limit; omega)
  obtain ⟨p1, p2, p3⟩ := q4 a'
  have hge := hτ.ge
  have hnot : ∀ i ∈ (b :: F.v :: F.le :: F.re :: F.m :: (ids tv ++ (ids sv ++ (ids lv ++ (E1 ++ E2))))), i ∉ ids a ∧ i ∈ foot b F tv sv lv es := fun i hi => by
    simp only [foot, q3, List.nodup_cons, List.nodup_append, List.mem_cons, List.mem_append] at nd hi ⊢
    grind
  have hold : ∀ i ∈ (b :: F.v :: F.le :: F.re :: F.m :: (ids tv ++ (ids sv ++ (ids lv ++ (E1 ++ E2))))), σ1.obj i = τ.obj i := fun i hi => f1 i (hnot i hi).1 (hge i (hnot i hi).2).2
  have hx1 : Ext s σ1 := ⟨Nat.le_trans hxt.n n1, fun c hc => by
    rw [f1 c (fun hm => by have := (hge c (by simp only [foot, q3, List.mem_cons, List.mem_append]; simp [hm])).1; omega) (by have := hxt.n; omega)]; exact hxt.old c hc⟩
  have hi0 : s.n.val ≤ i0.val ∧ (i0 ∈ ids a ∨ i0 ∉ foot b F tv sv lv es) := by
    rcases m1 with m1 | m1
    · exact ⟨(hge i0 (by simp only [foot, q3, List.mem_cons, List.mem_append]; simp [m1])).1, .inl m1⟩
    · exact ⟨by have := hxt.n; rw [m1]; exact this, .inr fun hm => by have := (hge i0 hm).2; rw [m1] at this; omega⟩
  have hm := hge F.m (by simp [foot])
  have om1 : σ1.obj F.m = .map es := by rw [hold _ (by simp)]; exact hτ.om
  refine ⟨a', σ1, _, es' a', e1, by rw [vmupd_int om1]; exact p1 _, fun i hi => by rcases hi with rfl | rfl <;> exact hold _ (by simp), ?_⟩
  have hg : ∀ i ∈ (b :: F.v :: F.le :: F.re :: (ids tv ++ (ids sv ++ (ids lv ++ (E1 ++ E2))))), (σ1.put F.m (.map (es' a'))).obj i = τ.obj i := fun i hi => by
    have hne : i ≠ F.m := by
      simp only [foot, q3, List.nodup_cons, List.nodup_append, List.mem_cons, List.mem_append] at nd hi
      grind
    rw [St.obj_put, if_neg hne]
    exact hold i (by simp only [List.mem_cons, List.mem_append] at hi ⊢; grind)
  have hmi : F.m ≠ i0 := fun e => by
    rcases hi0.2 with q | q
    · rw [← e] at q
      exact (hnot F.m (by simp)).1 q
    · apply q; rw [← e]; simp [foot]
  have hnew : ∀ i ∈ ids a', (σ1.put F.m (.map (es' a'))).obj i = σ1.obj i := fun i hi => by
    rw [d1, List.mem_singleton] at hi
    rw [St.obj_put, if_neg]; rw [hi]; exact fun e => hmi e.symm
  refine ⟨r1.put (by omega) _, hx1.put hm.1 _, (hg _ (by simp)).trans hτ.ob, (hg _ (by simp)).trans hτ.ov, (hg _ (by simp)).trans hτ.ole, (hg _ (by simp)).trans hτ.ore, put_self _ _ _, hτ.ht.frame fun i hi => hg i (by simp [hi]), hτ.hs.frame fun i hi => hg i (by simp [hi]), hτ.hl.frame fun i hi => hg i (by simp [hi]), ?_, ?_, fun i hi => ?_, h.lv1, h.lv2, h.lv3, h.bd⟩
  · refine p3 _ _ (by have := o1.frame hnew; simpa [SV.aT_tr, SV.aS_st, SV.aL_cl] using this) fun i hi => ?_
    rw [hg i (by simp only [List.mem_cons, List.mem_append] at hi ⊢; grind)]
    exact hfr i (by simp only [foot, q3, List.mem_cons, List.mem_append] at hi ⊢; grind)
  · have hA : foot b F tv sv lv es = (b :: F.v :: F.le :: F.re :: F.m :: (ids tv ++ (ids sv ++ (ids lv ++ E1)))) ++ (ids a ++ E2) := by simp [foot, q3]
    have hB : foot b F tv sv lv (es' a') = (b :: F.v :: F.le :: F.re :: F.m :: (ids tv ++ (ids sv ++ (ids lv ++ E1)))) ++ (ids a' ++ E2) := by simp [foot, p2]
    rw [hB]
    refine nd_repl (B := ids a) (by rw [← hA]; exact nd) (by rw [d1]; simp) fun i hi => ?_
    rw [d1, List.mem_singleton] at hi
    rw [hi, ← hA]; exact hi0.2
  · rw [put_n]
    have hi2 : i = i0 ∨ i ∈ foot b F tv sv lv es := by
      simp only [foot, p2, q3, d1, List.mem_cons, List.mem_append, List.not_mem_nil] at hi ⊢; grind
    rcases hi2 with rfl | hi2
    · exact ⟨hi0.1, l1⟩
    · exact ⟨(hge i hi2).1, Nat.lt_of_lt_of_le (hge i hi2).2 n1⟩
end
end Go.Vm
