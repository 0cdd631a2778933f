/- Code, step by step, for whatever values. No condition. -/
import Derived.Test.YtdamhfbdogkkjaaGreatDoorVmV
import Derived.Lib.Bytealg
import Derived.Below
import Derived.Test.YtdamhfbdogkkjaaGreatDoorVmS
namespace Go.Vm
set_option linter.unusedVariables false
variable {P : Program}
noncomputable def vcells (o : AO) (k : List AV → R) (h : Hold k := .mk) : R := o.onCells .no k
theorem vcells_cells (cs : List AV) (k : List AV → R) : vcells (.cells cs) k = k cs := nd rfl
/-! ### Slices, in memory or not -/
noncomputable def lenOf (v : AV) : Nat := v.onSl 0 0 (fun _ _ l _ _ => l) fun _ l _ _ => l
noncomputable def rowOf (s : St) (v : AV) : List AV := v.onSl [] [] (fun b o _ _ _ => (s.obj b).row.drop o) fun cs _ _ _ => cs
noncomputable def elp (v : AV) (k : Nat) : AV := v.onSl .nilp .nilp (fun b o _ _ _ => .ptr b (o + k)) fun cs _ _ _ => .tp (cs.drop k)
/-- A value that shows nothing of the blocks from a name on. -/
def Ov (n : Nat) (v : AV) : Prop := ∀ s, Fz n s v v
theorem fz_fix {n m : Nat} {s t : St} (hm : n ≤ m) {v w : AV} (h : Fz n s v w) : v = w → Fz m t v w := by
  have row : ∀ {cs l : List AV}, (∀ (j : Nat) (c d : AV), cs[j]? = some c → l[j]? = some d → c = d → Fz m t c d) → cs = l → ∀ (j : Nat) (c d : AV), cs[j]? = some c → l[j]? = some d → Fz m t c d := by
    intro cs l ih e j c d hc hd
    subst e
    rw [hc] at hd
    exact ih j c d hc (by rw [hc]; exact hd) (Option.some.inj hd)
  induction h with
  | bool b => intro _; exact .bool b
  | int k i => intro _; exact .int k i
  | str l => intro _; exact .str l
  | nilp => intro _; exact .nilp
  | nils => intro _; exact .nils
  | nilm => intro _; exact .nilm
  | nilf => intro _; exact .nilf
  | nili => intro _; exact .nili
  | ptrO b o h => intro _; exact .ptrO b o (by omega)
  | slO b o len cap ex h => intro _; exact .slO b o len cap ex (by omega)
  | mapO b h => intro _; exact .mapO b (by omega)
  | ptrN b o cs l h hc hl hr ih => intro e; cases e
  | slN b o len cap ex cs l h hc hl hr ih => intro e; cases e
  | tp cs l hl hr ih => intro e; injection e with e; exact .tp cs l hl (row ih e)
  | ts cs l len cap ex hl hr ih => intro e; injection e with e; exact .ts cs l len cap ex hl (row ih e)
  | agg cs l hl hr ih => intro e; injection e with e; exact .agg cs l hl (row ih e)
  | tup cs l hl hr ih => intro e; injection e with e; exact .tup cs l hl (row ih e)
  | fn f as bs l k hl hr hm hs ih1 ih2 => intro e; injection e with e0 e1 e2; exact .fn f as bs l k hl (row ih1 e1) hm (row ih2 e2)
  | ifc u v w h ih => intro e; injection e with e0 e1; exact .ifc u v w (ih e1)
theorem Ov.mono {n m : Nat} (hm : n ≤ m) {v : AV} (h : Ov n v) : Ov m v := fun s => fz_fix hm (h s) rfl
theorem Fz.ov {n : Nat} {s : St} {v w : AV} (h : Fz n s v w) : Ov n w := by
  have row : ∀ {cs l : List AV} {t : St}, l.length = cs.length → (∀ (j : Nat) (c d : AV), cs[j]? = some c → l[j]? = some d → Ov n d) → ∀ (j : Nat) (c d : AV), l[j]? = some c → l[j]? = some d → Fz n t c d := by
    intro cs l t hl ih j c d hc hd
    rw [hc] at hd; cases hd
    have hj : j < cs.length := by rw [← hl]; exact (List.getElem?_eq_some_iff.mp hc).1
    exact ih j _ _ (List.getElem?_eq_getElem hj) hc t
  induction h with
  | bool b => intro t; exact .bool b
  | int k i => intro t; exact .int k i
  | str l => intro t; exact .str l
  | nilp => intro t; exact .nilp
  | nils => intro t; exact .nils
  | nilm => intro t; exact .nilm
  | nilf => intro t; exact .nilf
  | nili => intro t; exact .nili
  | ptrO b o h => intro t; exact .ptrO b o h
  | slO b o len cap ex h => intro t; exact .slO b o len cap ex h
  | mapO b h => intro t; exact .mapO b h
  | ptrN b o cs l h hc hl hr ih => intro t; exact .tp l l rfl (row hl ih)
  | slN b o len cap ex cs l h hc hl hr ih => intro t; exact .ts l l len len false rfl (row hl ih)
  | tp cs l hl hr ih => intro t; exact .tp l l rfl (row hl ih)
  | ts cs l len cap ex hl hr ih => intro t; exact .ts l l len cap ex rfl (row hl ih)
  | agg cs l hl hr ih => intro t; exact .agg l l rfl (row hl ih)
  | tup cs l hl hr ih => intro t; exact .tup l l rfl (row hl ih)
  | fn f as bs l k hl hr hm hs ih1 ih2 => intro t; exact .fn f l k l k rfl (row hl ih1) rfl (row hm ih2)
  | ifc u v w h ih => intro t; exact .ifc u w w (ih t)
theorem ov_bool (n : Nat) (b : Bool) : Ov n (.bool b) := fun _ => .bool b
theorem ov_int (n : Nat) (k : IntKind) (i : Int) : Ov n (.int k i) := fun _ => .int k i
theorem ov_str (n : Nat) (l : List UInt8) : Ov n (.str l) := fun _ => .str l
theorem ov_nils (n : Nat) : Ov n .nils := fun _ => .nils
theorem ov_row {n : Nat} {cs : List AV} (h : ∀ c ∈ cs, Ov n c) (t : St) : ∀ (j : Nat) (c d : AV), cs[j]? = some c → cs[j]? = some d → Fz n t c d := by
  intro j c d hc hd
  rw [hc] at hd; cases hd
  exact h c (List.mem_of_getElem? hc) t
theorem ov_ts {n : Nat} {cs : List AV} (h : ∀ c ∈ cs, Ov n c) (len cap : Nat) (ex : Bool) : Ov n (.ts cs len cap ex) := fun t => .ts cs cs len cap ex rfl (ov_row h t)
theorem ov_agg {n : Nat} {cs : List AV} (h : ∀ c ∈ cs, Ov n c) : Ov n (.agg cs) := fun t => .agg cs cs rfl (ov_row h t)
theorem ov_tup {n : Nat} {cs : List AV} (h : ∀ c ∈ cs, Ov n c) : Ov n (.tup cs) := fun t => .tup cs cs rfl (ov_row h t)
theorem ov_sl {n : Nat} {b : Id} (h : b.val < n) (o len cap ex : Nat) : Ov n (.sl b o len cap ex) := fun _ => .slO b o len cap ex h
inductive IsSl (s : St) : AV → Prop where
  | nils : IsSl s .nils
  | ts (cs : List AV) (len cap : Nat) (ex : Bool) (hm : len ≤ limit) (ho : ∀ c ∈ cs, Ov s.n.val c) : IsSl s (.ts cs len cap ex)
  | sl (b : Id) (o len cap ex : Nat) (cs : List AV) (hm : len ≤ limit) (h : s.obj b = .cells cs) (hb : b.val < s.n.val) (hoo : o ≤ cs.length) : IsSl s (.sl b o len cap ex)
/-! ### Further on -/
structure Ext (s s' : St) : Prop where
  n : s.n.val ≤ s'.n.val
  old : Old s s'
theorem Ext.refl (s : St) : Ext s s := ⟨Nat.le_refl _, fun _ _ => rfl⟩
theorem Ext.trans {s s1 s2 : St} (h : Ext s s1) (k : Ext s1 s2) : Ext s s2 := ⟨Nat.le_trans h.n k.n, fun b hb => (k.old b (Nat.lt_of_lt_of_le hb h.n)).trans (h.old b hb)⟩
theorem IsSl.ov {s : St} {v : AV} (h : IsSl s v) : Ov s.n.val v := by
  cases h with
  | nils => exact ov_nils _
  | ts cs len cap ex hm ho => exact ov_ts ho _ _ _
  | sl b o len cap ex cs hm h hb hoo => exact ov_sl hb _ _ _ _
theorem IsSl.most {s : St} {v : AV} (h : IsSl s v) : lenOf v ≤ 140737488355328 := by
  cases h with
  | nils => exact Nat.zero_le _
  | ts cs len cap ex hm ho => exact hm
  | sl b o len cap ex cs hm h hb hoo => exact hm
theorem IsSl.ext {s s' : St} (h : Ext s s') {v : AV} (k : IsSl s v) : IsSl s' v := by
  cases k with
  | nils => exact .nils
  | ts cs len cap ex hm ho => exact .ts _ _ _ _ hm (fun c hc => (ho c hc).mono h.n)
  | sl b o len cap ex cs hm h1 hb hoo => exact .sl b o len cap ex cs hm (by rw [h.old b hb]; exact h1) (Nat.lt_of_lt_of_le hb h.n) hoo
theorem rowOf_ext {s s' : St} (h : Ext s s') {v : AV} (k : IsSl s v) : rowOf s' v = rowOf s v := by
  cases k with
  | nils => rfl
  | ts => rfl
  | sl b o len cap ex cs hm h1 hb hoo => show (s'.obj b).row.drop o = (s.obj b).row.drop o; rw [h.old b hb]
/-! ### New blocks -/
noncomputable def St.push (s : St) (o : AO) : St := St.rec (fun h n => .mk (n.set o h) (n.up n fun m => m)) s
theorem alloc_push {s : St} (o : AO) (k : Id → St → R) : s.alloc o k = k s.n (s.push o) := by
  cases s with | mk t n =>
  show (n.up .no fun m => k n (.mk (n.set o t) m)) = k n (.mk (n.set o t) (n.up n fun m => m))
  obtain ⟨m, hm, h1⟩ := n.up_all
  rw [h1, h1]
theorem push_n {s : St} (o : AO) : (s.push o).n.val = s.n.val + 1 := by
  have h1 := alloc_push (s := s) o fun b s' => .ok (.ptr b 0) s'
  rcases St.alloc_spec s o (fun b s' => .ok (.ptr b 0) s') with h2 | ⟨s', h2, h3, h4⟩
  · rw [h2] at h1; cases h1
  · rw [h4] at h1
    have := (ok_inj h1).2
    rw [← this]; exact h2
theorem push_obj (s : St) (o : AO) (c : Id) : (s.push o).obj c = if c = s.n then o else s.obj c := by
  cases s with | mk t n => exact Id.get_set c n o t
theorem push_self (s : St) (o : AO) : (s.push o).obj s.n = o := by rw [push_obj, if_pos rfl]
theorem push_old {s : St} {o : AO} {b : Id} (h : b.val < s.n.val) : (s.push o).obj b = s.obj b := by
  rw [push_obj, if_neg]; intro e; rw [e] at h; omega
theorem put_n (s : St) (b : Id) (o : AO) : (s.put b o).n = s.n := St.n_put s b o
theorem put_self (s : St) (b : Id) (o : AO) : (s.put b o).obj b = o := by rw [St.obj_put, if_pos rfl]
theorem put_ne {s : St} {b c : Id} {o : AO} (h : c.val ≠ b.val) : (s.put b o).obj c = s.obj c := by rw [St.obj_put, if_neg]; intro e; rw [e] at h; exact h rfl
theorem Ext.push {s s1 : St} (h : Ext s s1) (o : AO) : Ext s (s1.push o) :=
  h.trans ⟨by rw [push_n]; omega, fun b hb => push_old hb⟩
theorem Ext.put {s s1 : St} (h : Ext s s1) {b : Id} (hb : s.n.val ≤ b.val) (o : AO) : Ext s (s1.put b o) :=
  ⟨by rw [put_n]; exact h.n, fun c hc => by rw [put_ne (by omega)]; exact h.old c hc⟩
/-! ### Operations -/
section
variable (call : CallT) (f : Fr AV) (s : St)
theorem e_tt (n : Nat) : ev1 f (tt n) = (vv n).get f := nd rfl
theorem e_kk (n : Int) : ev1 f (kk n) = .int .i64 n := nd rfl
theorem e_c (a : AV) : ev1 f (.c a) = a := nd rfl
theorem evs_nil : evs f [] = [] := nd rfl
theorem evs_cons (x : CO) (l : List CO) : evs f (x :: l) = ev1 f x :: evs f l := nd rfl
theorem p_mv (x : CO) : exop (.mv x) call f s = .ok (ev1 f x) s := nd rfl
theorem p_pick (c a b : CO) : exop (.pick c a b) call f s = (ev1 f c).onBool .no fun t => .ok (br t (ev1 f a) (ev1 f b)) s := nd rfl
theorem onBool_bool {β : Type} (b : Bool) (d : β) (k : Bool → β) : (AV.bool b).onBool d k = k b := nd rfl
theorem br_true' {β : Type} (x y : β) : br true x y = x := nd rfl
theorem br_false' {β : Type} (x y : β) : br false x y = y := nd rfl
noncomputable def vbox (a : AV) (s : St) : R := a.lay fun l => s.alloc (.cells l) fun b s => .ok (.ptr b 0) s
theorem p_box (x : CO) : exop (.box x) call f s = vbox (ev1 f x) s := nd rfl
theorem vbox_agg {s : St} (cs : List AV) : vbox (.agg cs) s = .ok (.ptr s.n 0) (s.push (.cells cs)) := by
  show (s.alloc (.cells cs) fun b s => .ok (.ptr b 0) s) = _; rw [alloc_push]
theorem vbox_one {s : St} (a : AV) (ha : a.one = true) : vbox a s = .ok (.ptr s.n 0) (s.push (.cells [a])) := by
  cases a <;> first | (show (s.alloc (.cells _) fun b s => .ok (.ptr b 0) s) = _; rw [alloc_push]; done) | cases ha
theorem p_alloc {s : St} (z : List AV) : exop (.alloc z) call f s = .ok (.ptr s.n 0) (s.push (.cells z)) := by
  show (s.alloc (.cells z) fun b s => .ok (.ptr b 0) s) = _; rw [alloc_push]
noncomputable def vload (agg : Bool) (sz : Nat) (p : AV) (s : St) : R := p.onPtr .no (fun b o => vcells (s.obj b) fun cs => wrap1 agg sz (cs.drop o) s) fun cs => wrap1 agg sz cs s
theorem p_load (agg : Bool) (sz : Nat) (x : CO) : exop (.load agg sz x) call f s = vload agg sz (ev1 f x) s := by
  show (ev1 f x).onPtr R.no (fun b o => (s.obj b).onCells .no fun cs => wrap1 agg sz (dr o cs) s) (fun cs => wrap1 agg sz cs s) = _
  simp only [dr_eq]; rfl
theorem vload_ptr (agg : Bool) (sz : Nat) (b : Id) (o : Nat) : vload agg sz (.ptr b o) s = vcells (s.obj b) fun cs => wrap1 agg sz (cs.drop o) s := nd rfl
theorem vload_tp (agg : Bool) (sz : Nat) (cs : List AV) : vload agg sz (.tp cs) s = wrap1 agg sz cs s := nd rfl
theorem wrap1_one (sz : Nat) (x : AV) (l : List AV) : wrap1 false sz (x :: l) s = .ok x s := nd rfl
theorem wrap1_agg {s : St} {sz : Nat} {l : List AV} (h : sz ≤ l.length) : wrap1 true sz l s = .ok (.agg (l.take sz)) s := by
  show br (Nat.beq (ln (tk sz l)) sz) (R.ok (.agg (tk sz l)) s) .no = _
  rw [tk_eq, ln_eq, List.length_take, Nat.min_eq_left h, Nat.beq_refl]; rfl
noncomputable def vfaddr (off : Nat) (p : AV) (s : St) : R := p.onPtr .no (fun b o => .ok (.ptr b (o + off)) s) fun cs => .ok (.tp (cs.drop off)) s
theorem p_faddr (off : Nat) (x : CO) : exop (.faddr off x) call f s = vfaddr off (ev1 f x) s := by
  show (ev1 f x).onPtr R.no (fun b o => .ok (.ptr b (Nat.add o off)) s) (fun cs => .ok (.tp (dr off cs)) s) = _
  simp only [dr_eq]; rfl
theorem vfaddr_ptr (off : Nat) (b : Id) (o : Nat) : vfaddr off (.ptr b o) s = .ok (.ptr b (o + off)) s := nd rfl
theorem vfaddr_tp (off : Nat) (cs : List AV) : vfaddr off (.tp cs) s = .ok (.tp (cs.drop off)) s := nd rfl
noncomputable def vfield (agg : Bool) (off sz : Nat) (a : AV) (s : St) : R := a.onAgg .no fun cs => wrap1 agg sz (cs.drop off) s
theorem p_field (agg : Bool) (off sz : Nat) (x : CO) : exop (.field agg off sz x) call f s = vfield agg off sz (ev1 f x) s := by
  show (ev1 f x).onAgg R.no (fun cs => wrap1 agg sz (dr off cs) s) = _
  simp only [dr_eq]; rfl
theorem vfield_agg (agg : Bool) (off sz : Nat) (cs : List AV) : vfield agg off sz (.agg cs) s = wrap1 agg sz (cs.drop off) s := nd rfl
noncomputable def vbin (op : BinOp) (a b : AV) (s : St) : R := a.onInt (a.onStr .no fun l => b.onStr .no fun m => strBin op l m s) fun j x => b.onInt .no fun k y => intBin op j x k y s
theorem p_bin (op : BinOp) (x y : CO) : exop (.bin op x y) call f s = vbin op (ev1 f x) (ev1 f y) s := nd rfl
theorem vbin_add (j : IntKind) (a b : Int) : vbin .add (.int j a) (.int j b) s = .ok (.int j (j.wrap (a + b))) s := by
  show br (keq j j) (R.ok (.int j (wr j (iadd a b))) s) .no = _
  rw [(keq_iff j j).mpr rfl, iadd_eq, wr_eq]; rfl
theorem vbin_sub (j : IntKind) (a b : Int) : vbin .sub (.int j a) (.int j b) s = .ok (.int j (j.wrap (a - b))) s := by
  show br (keq j j) (R.ok (.int j (wr j (iadd a (ineg b)))) s) .no = _
  rw [(keq_iff j j).mpr rfl, iadd_eq, ineg_eq, wr_eq]; rfl
theorem vbin_mul (j : IntKind) (a b : Int) : vbin .mul (.int j a) (.int j b) s = .ok (.int j (j.wrap (a * b))) s := by
  show br (keq j j) (R.ok (.int j (wr j (Int.mul a b))) s) .no = _
  rw [(keq_iff j j).mpr rfl, wr_eq]; rfl
theorem vbin_quo (j : IntKind) (a b : Int) (h : b ≠ 0) : vbin .quo (.int j a) (.int j b) s = .ok (.int j (j.wrap (a.tdiv b))) s := by
  show br (keq j j) (br (ieq b 0) .no (R.ok (.int j (wr j (a.tdiv b))) s)) .no = _
  rw [(keq_iff j j).mpr rfl, ieq_eq, wr_eq, show (b == 0) = false by simp [h]]; rfl
theorem vbin_rem (j : IntKind) (a b : Int) (h : b ≠ 0) : vbin .rem (.int j a) (.int j b) s = .ok (.int j (a.tmod b)) s := by
  show br (keq j j) (br (ieq b 0) .no (R.ok (.int j (a.tmod b)) s)) .no = _
  rw [(keq_iff j j).mpr rfl, ieq_eq, show (b == 0) = false by simp [h]]; rfl
theorem brn (b : Bool) : br b false true = !b := by cases b <;> rfl
theorem vbin_eql (j : IntKind) (a b : Int) : vbin .eql (.int j a) (.int j b) s = .ok (.bool (decide (a = b))) s := by
  show br (keq j j) (R.ok (.bool (ieq a b)) s) .no = _
  rw [(keq_iff j j).mpr rfl, ieq_eq]; rfl
theorem vbin_neq (j : IntKind) (a b : Int) : vbin .neq (.int j a) (.int j b) s = .ok (.bool (decide (a ≠ b))) s := by
  show br (keq j j) (R.ok (.bool (br (ieq a b) false true)) s) .no = _
  rw [(keq_iff j j).mpr rfl, ieq_eq, brn, br_true', decide_not]; rfl
theorem vbin_lss (j : IntKind) (a b : Int) : vbin .lss (.int j a) (.int j b) s = .ok (.bool (decide (a < b))) s := by
  show br (keq j j) (R.ok (.bool (ilt a b)) s) .no = _
  rw [(keq_iff j j).mpr rfl, ilt_eq]; rfl
theorem vbin_leq (j : IntKind) (a b : Int) : vbin .leq (.int j a) (.int j b) s = .ok (.bool (decide (a ≤ b))) s := by
  show br (keq j j) (R.ok (.bool (br (ilt b a) false true)) s) .no = _
  rw [(keq_iff j j).mpr rfl, ilt_eq, brn, br_true']
  congr 2; rw [Bool.eq_iff_iff]; simp
theorem vbin_gtr (j : IntKind) (a b : Int) : vbin .gtr (.int j a) (.int j b) s = .ok (.bool (decide (b < a))) s := by
  show br (keq j j) (R.ok (.bool (ilt b a)) s) .no = _
  rw [(keq_iff j j).mpr rfl, ilt_eq]; rfl
theorem vbin_geq (j : IntKind) (a b : Int) : vbin .geq (.int j a) (.int j b) s = .ok (.bool (decide (b ≤ a))) s := by
  show br (keq j j) (R.ok (.bool (br (ilt a b) false true)) s) .no = _
  rw [(keq_iff j j).mpr rfl, ilt_eq, brn, br_true']
  congr 2; rw [Bool.eq_iff_iff]; simp
theorem vbin_seql (a b : List UInt8) : vbin .eql (.str a) (.str b) s = .ok (.bool (decide (a = b))) s := by
  show R.ok (.bool (beqs a b)) s = _
  rw [beqs_eq, show (a == b) = decide (a = b) by rw [Bool.eq_iff_iff]; simp]
theorem vbin_sneq (a b : List UInt8) : vbin .neq (.str a) (.str b) s = .ok (.bool (decide (a ≠ b))) s := by
  show R.ok (.bool (br (beqs a b) false true)) s = _
  rw [beqs_eq, brn, decide_not, show (a == b) = decide (a = b) by rw [Bool.eq_iff_iff]; simp]
theorem vbin_slss (a b : List UInt8) : vbin .lss (.str a) (.str b) s = .ok (.bool (Op.bytesLess a b)) s := nd rfl
theorem vbin_sgeq (a b : List UInt8) : vbin .geq (.str a) (.str b) s = .ok (.bool (!Op.bytesLess a b)) s := nd rfl
theorem vbin_sadd (a b : List UInt8) (h : a.length + b.length ≤ 9223372036854775807) : vbin .add (.str a) (.str b) s = .ok (.str (a ++ b)) s := by
  show br (Nat.ble (Nat.add (ln a) (ln b)) 9223372036854775807) (R.ok (.str (apd a b)) s) .no = _
  rw [ln_eq, ln_eq, apd_eq, show Nat.ble (Nat.add a.length b.length) 9223372036854775807 = true by rw [Nat.ble_eq]; exact h]; rfl
noncomputable def vbeq (neg : Bool) (a b : AV) (s : St) : R := a.onBool .no fun a => b.onBool .no fun b => .ok (.bool (br neg (br a (br b false true) b) (br a b (br b false true)))) s
theorem p_beq (neg : Bool) (x y : CO) : exop (.beq neg x y) call f s = vbeq neg (ev1 f x) (ev1 f y) s := nd rfl
theorem vbeq_eq (a b : Bool) : vbeq false (.bool a) (.bool b) s = .ok (.bool (decide (a = b))) s := by cases a <;> cases b <;> rfl
theorem vbeq_ne (a b : Bool) : vbeq true (.bool a) (.bool b) s = .ok (.bool (decide (a ≠ b))) s := by cases a <;> cases b <;> rfl
noncomputable def vnot (a : AV) (s : St) : R := a.onBool .no fun b => .ok (.bool (br b false true)) s
theorem p_not (x : CO) : exop (.not x) call f s = vnot (ev1 f x) s := nd rfl
theorem vnot_bool (b : Bool) : vnot (.bool b) s = .ok (.bool (!b)) s := by cases b <;> rfl
noncomputable def vneg (a : AV) (s : St) : R := a.onInt .no fun k n => .ok (.int k (wr k (ineg n))) s
theorem p_neg (x : CO) : exop (.neg x) call f s = vneg (ev1 f x) s := nd rfl
theorem vneg_int (k : IntKind) (n : Int) : vneg (.int k n) s = .ok (.int k (k.wrap (-n))) s := by
  show R.ok (.int k (wr k (ineg n))) s = _; rw [wr_eq, ineg_eq]
noncomputable def vconv (k : IntKind) (a : AV) (s : St) : R := a.onInt .no fun _ n => .ok (.int k (wr k n)) s
theorem p_conv (k : IntKind) (x : CO) : exop (.conv k x) call f s = vconv k (ev1 f x) s := nd rfl
theorem vconv_int (j k : IntKind) (n : Int) : vconv k (.int j n) s = .ok (.int k (k.wrap n)) s := by
  show R.ok (.int k (wr k n)) s = _; rw [wr_eq]
noncomputable def vext (a : AV) (i : Nat) (s : St) : R := a.onTup .no fun vs => Option.rec .no (fun v => .ok v s) (nth i vs)
theorem p_ext (x : CO) (i : Nat) : exop (.ext x i) call f s = vext (ev1 f x) i s := nd rfl
theorem vext_0 (a : AV) (l : List AV) : vext (.tup (a :: l)) 0 s = .ok a s := nd rfl
theorem vext_1 (a b : AV) (l : List AV) : vext (.tup (a :: b :: l)) 1 s = .ok b s := nd rfl
theorem vext_2 (a b c : AV) (l : List AV) : vext (.tup (a :: b :: c :: l)) 2 s = .ok c s := nd rfl
theorem p_callf (g : Id) (as : List CO) : exop (.callf g as) call f s = call g (evs f as) s := nd rfl
noncomputable def vlens (a : AV) (s : St) : R := a.onStr .no fun l => .ok (.int .i64 (.ofNat (ln l))) s
theorem p_lens (x : CO) : exop (.lens x) call f s = vlens (ev1 f x) s := nd rfl
theorem vlens_str (l : List UInt8) : vlens (.str l) s = .ok (.int .i64 (l.length : Int)) s := by show R.ok (.int .i64 (.ofNat (ln l))) s = _; rw [ln_eq]; rfl
noncomputable def vlen (a : AV) (s : St) : R := a.onSl .no (.ok (.int .i64 0) s) (fun _ _ l _ _ => .ok (.int .i64 (.ofNat l)) s) fun _ l _ _ => .ok (.int .i64 (.ofNat l)) s
theorem p_len (x : CO) : exop (.len x) call f s = vlen (ev1 f x) s := nd rfl
noncomputable def viaddr (sz : Nat) (a i : AV) (s : St) : R := a.onSl .no .no (fun b o len _ _ => i.idx len fun m => .ok (.ptr b (o + m * sz)) s) fun cs len _ _ => i.idx len fun m => .ok (.tp (cs.drop (m * sz))) s
theorem p_iaddr (sz : Nat) (x i : CO) : exop (.iaddr sz x i) call f s = viaddr sz (ev1 f x) (ev1 f i) s := by
  show (ev1 f x).onSl R.no .no (fun b o len _ _ => (ev1 f i).idx len fun m => .ok (.ptr b (Nat.add o (Nat.mul m sz))) s) (fun cs len _ _ => (ev1 f i).idx len fun m => .ok (.tp (dr (Nat.mul m sz) cs)) s) = _
  simp only [dr_eq]; rfl
theorem idx_eq {j : IntKind} {i : Int} {n : Nat} (h0 : 0 ≤ i) (h1 : i < n) (k : Nat → R) : (AV.int j i).idx n k = k i.toNat := by
  obtain ⟨m, rfl⟩ := Int.eq_ofNat_of_zero_le h0
  show br (Nat.ble (Nat.succ m) n) (k m) .no = _
  rw [show Nat.ble (Nat.succ m) n = true by rw [Nat.ble_eq]; show m + 1 ≤ n; omega]; rfl
noncomputable def vsidx (a i : AV) (s : St) : R := a.onStr .no fun l => i.idx (ln l) fun m => Option.rec .no (fun c => .ok (.int .u8 (.ofNat (UInt8.toNat c))) s) (nth m l)
theorem p_sidx (x i : CO) : exop (.sidx x i) call f s = vsidx (ev1 f x) (ev1 f i) s := nd rfl
theorem vsidx_eq {j : IntKind} {l : List UInt8} {i : Int} (h0 : 0 ≤ i) (h1 : i < l.length) : vsidx (.str l) (.int j i) s = .ok (.int .u8 ((l[i.toNat]'(by omega)).toNat : Int)) s := by
  show (AV.int j i).idx (ln l) (fun m => Option.rec .no (fun c => .ok (.int .u8 (.ofNat (UInt8.toNat c))) s) (nth m l)) = _
  rw [ln_eq, idx_eq h0 h1, nth_eq, List.getElem?_eq_getElem (by omega)]; rfl
noncomputable def vmm (mx : Bool) (a b : AV) (s : St) : R := a.onInt .no fun j x => b.onInt .no fun k y => .ok (.int j (best mx x y)) s
theorem p_mm (mx : Bool) (x y : CO) : exop (.mm mx x [y]) call f s = vmm mx (ev1 f x) (ev1 f y) s := nd rfl
theorem vmm_max (j k : IntKind) (a b : Int) : vmm true (.int j a) (.int k b) s = .ok (.int j (max a b)) s := by
  show R.ok (.int j (br (ilt a b) b a)) s = _
  rw [ilt_eq]; congr 2
  by_cases h : a < b
  · rw [decide_eq_true h, br_true']; omega
  · rw [decide_eq_false h, br_false']; omega
theorem vmm_min (j k : IntKind) (a b : Int) : vmm false (.int j a) (.int k b) s = .ok (.int j (min a b)) s := by
  show R.ok (.int j (br (ilt b a) b a)) s = _
  rw [ilt_eq]; congr 2
  by_cases h : b < a
  · rw [decide_eq_true h, br_true']; omega
  · rw [decide_eq_false h, br_false']; omega
noncomputable def vnilck (a : AV) (s : St) : R := a.onNil3 (.ok a s) .no
theorem p_nilck (x : CO) : exop (.nilck x) call f s = vnilck (ev1 f x) s := nd rfl
theorem vnilck_ptr (b : Id) (o : Nat) : vnilck (.ptr b o) s = .ok (.ptr b o) s := nd rfl
theorem vnilck_tp (cs : List AV) : vnilck (.tp cs) s = .ok (.tp cs) s := nd rfl
end
section
variable {s : St} {v : AV}
theorem vlen_any {t : St} {v : AV} (h : IsSl t v) (s : St) : vlen v s = .ok (.int .i64 (lenOf v : Int)) s := by cases h <;> rfl
theorem vlen_eq (h : IsSl s v) : vlen v s = .ok (.int .i64 (lenOf v : Int)) s := by cases h <;> rfl
theorem viaddr_any {t : St} {v : AV} (h : IsSl t v) {i : Int} (h0 : 0 ≤ i) (h1 : i < lenOf v) (sz : Nat) (j : IntKind) (s : St) : viaddr sz v (.int j i) s = .ok (elp v (i.toNat * sz)) s := by
  cases h with
  | nils => exfalso; have : i < ((0 : Nat) : Int) := h1; omega
  | ts cs len cap ex hm ho => exact idx_eq (j := j) (n := len) h0 h1 _
  | sl b o len cap ex cs hm h hb hoo => exact idx_eq (j := j) (n := len) h0 h1 _
theorem viaddr_eq {sz : Nat} {j : IntKind} {i : Int} (h : IsSl s v) (h0 : 0 ≤ i) (h1 : i < lenOf v) : viaddr sz v (.int j i) s = .ok (elp v (i.toNat * sz)) s := by
  cases h with
  | nils => exfalso; have : i < ((0 : Nat) : Int) := h1; omega
  | ts cs len cap ex hm ho => exact idx_eq (j := j) (n := len) h0 h1 _
  | sl b o len cap ex cs hm h hb hoo => exact idx_eq (j := j) (n := len) h0 h1 _
theorem vload_elp {agg : Bool} {sz k : Nat} (h : IsSl s v) (hn : rowOf s v ≠ []) : vload agg sz (elp v k) s = wrap1 agg sz ((rowOf s v).drop k) s := by
  cases h with
  | nils => exact absurd rfl hn
  | ts cs len cap ex hm ho => rfl
  | sl b o len cap ex cs hm h hb hoo =>
    show vcells (s.obj b) (fun cs => wrap1 agg sz (cs.drop (o + k)) s) = wrap1 agg sz (((s.obj b).row.drop o).drop k) s
    rw [h, List.drop_drop]; rfl
theorem vfaddr_any {t : St} {v : AV} (h : IsSl t v) (hn : rowOf t v ≠ []) (k off : Nat) (s : St) : vfaddr off (elp v k) s = .ok (elp v (k + off)) s := by
  cases h with
  | nils => exact absurd rfl hn
  | ts cs len cap ex hm ho => show R.ok (.tp ((cs.drop k).drop off)) s = .ok (.tp (cs.drop (k + off))) s; rw [List.drop_drop]
  | sl b o len cap ex cs hm h hb hoo => show R.ok (.ptr b (o + k + off)) s = .ok (.ptr b (o + (k + off))) s; rw [Nat.add_assoc]
theorem vfaddr_elp {k off : Nat} (h : IsSl s v) (hn : rowOf s v ≠ []) : vfaddr off (elp v k) s = .ok (elp v (k + off)) s := by
  cases h with
  | nils => exact absurd rfl hn
  | ts cs len cap ex hm ho => show R.ok (.tp ((cs.drop k).drop off)) s = .ok (.tp (cs.drop (k + off))) s; rw [List.drop_drop]
  | sl b o len cap ex cs hm h hb hoo => show R.ok (.ptr b (o + k + off)) s = .ok (.ptr b (o + (k + off))) s; rw [Nat.add_assoc]
end
/-! ### Loops -/
theorem W_inv {call : CallT} {c : CC} {n : Fr AV → St → Prop} {e : Nat → Fr AV → St → Prop} {r : Fr AV → St → Prop} (Inv : Nat → Fr AV → St → Prop) (hs : ∀ k f s, Inv k f s → W call c (fun f s => ∃ k', k' < k ∧ Inv k' f s) e r f s) {k : Nat} {f : Fr AV} {s : St} (h : Inv k f s) : W call (.loop c) n e r f s := by
  induction k using Nat.strongRecOn generalizing f s with
  | ind k ih =>
    rw [W_loop]
    exact (hs k f s h).mono (fun f s ⟨k', h1, h2⟩ => ih k' h1 h2) (fun _ _ _ h => h) (fun _ _ h => h)
/-! ### Functions' frames -/
theorem f1_0 (a : AV) : (vv 0).get (frame0 [a]) = a := nd rfl
theorem f2_0 (a b : AV) : (vv 0).get (frame0 [a, b]) = a := nd rfl
theorem f2_1 (a b : AV) : (vv 1).get (frame0 [a, b]) = b := nd rfl
theorem f3_0 (a b c : AV) : (vv 0).get (frame0 [a, b, c]) = a := nd rfl
theorem f3_1 (a b c : AV) : (vv 1).get (frame0 [a, b, c]) = b := nd rfl
theorem f3_2 (a b c : AV) : (vv 2).get (frame0 [a, b, c]) = c := nd rfl
theorem f4_0 (a b c d : AV) : (vv 0).get (frame0 [a, b, c, d]) = a := nd rfl
theorem f4_1 (a b c d : AV) : (vv 1).get (frame0 [a, b, c, d]) = b := nd rfl
theorem f4_2 (a b c d : AV) : (vv 2).get (frame0 [a, b, c, d]) = c := nd rfl
theorem f4_3 (a b c d : AV) : (vv 3).get (frame0 [a, b, c, d]) = d := nd rfl
theorem Rs_1 (K : AV → St → Prop) (t : Nat) (f : Fr AV) (s : St) : Rs K [.tmp (vv t)] f s = K ((vv t).get f) s := nd rfl
theorem Rs_2 (K : AV → St → Prop) (t u : Nat) (f : Fr AV) (s : St) : Rs K [.tmp (vv t), .tmp (vv u)] f s = K (.tup [(vv t).get f, (vv u).get f]) s := nd rfl
theorem Rs_3 (K : AV → St → Prop) (t u w : Nat) (f : Fr AV) (s : St) : Rs K [.tmp (vv t), .tmp (vv u), .tmp (vv w)] f s = K (.tup [(vv t).get f, (vv u).get f, (vv w).get f]) s := nd rfl
theorem settled_fz {s s0 : St} {r0 r : AV} (h : Ext s s0) (hf : Fz s.n.val s0 r0 r) : Settled s r0 s0 r s := .inl ⟨h.old, hf, rfl⟩
theorem settled_ov {s s0 : St} {r : AV} (h : Ext s s0) (hf : Ov s.n.val r) : Settled s r s0 r s := .inl ⟨h.old, hf s0, rfl⟩
theorem settled_flat {s s0 : St} {r0 : AV} (h : Ext s s0) (hf : r0.flat = true) : Settled s r0 s0 r0 s := by
  refine .inl ⟨h.old, ?_, rfl⟩
  cases r0 <;> first | (cases hf; done) | constructor
/-! ### Numbers that fit -/
theorem wrap_i64 {x : Int} (h0 : -9223372036854775808 ≤ x) (h1 : x ≤ 9223372036854775807) : IntKind.wrap .i64 x = x := by
  simp only [IntKind.wrap, IntKind.bits, IntKind.signed]
  simp
  omega
theorem wrap_u64 {x : Int} (h0 : 0 ≤ x) (h1 : x ≤ 18446744073709551615) : IntKind.wrap .u64 x = x := by
  simp only [IntKind.wrap, IntKind.bits, IntKind.signed]
  simp
  omega
theorem wrap_u32 {x : Int} (h0 : 0 ≤ x) (h1 : x ≤ 4294967295) : IntKind.wrap .u32 x = x := by
  simp only [IntKind.wrap, IntKind.bits, IntKind.signed]
  simp
  omega
theorem wrap_u8 {x : Int} (h0 : 0 ≤ x) (h1 : x ≤ 255) : IntKind.wrap .u8 x = x := by
  simp only [IntKind.wrap, IntKind.bits, IntKind.signed]
  simp
  omega
attribute [go_sem] W_skip W_exit W_ret W_seq W_block W_cond W_region Wo_nil Wo_oo Wo_on Wo_mm Wo_og onG_bool onG_undef onP_ok onB_bool onBool_bool br_true' br_false' vcells_cells
  vv_gs e_tt e_kk e_c evs_nil evs_cons p_mv p_pick p_box p_load p_faddr p_field p_bin p_beq p_not p_neg p_conv p_ext p_callf p_lens p_len p_iaddr p_sidx p_mm p_nilck
  vload_ptr vload_tp wrap1_one vfaddr_ptr vfaddr_tp vfield_agg vbin_add vbin_sub vbin_mul vbin_eql vbin_neq vbin_lss vbin_leq vbin_gtr vbin_geq vbin_seql vbin_sneq vbin_slss vbin_sgeq vbeq_eq vbeq_ne vnot_bool vneg_int vconv_int vext_0 vext_1 vext_2 vlens_str vmm_max vmm_min vnilck_ptr vnilck_tp
  f1_0 f2_0 f2_1 f3_0 f3_1 f3_2 f4_0 f4_1 f4_2 f4_3 Rs_1 Rs_2 Rs_3 if_true if_false decide_true decide_false List.drop_succ_cons List.drop_zero Nat.zero_add Nat.add_zero
end Go.Vm
namespace Go.Vm
set_option linter.unusedVariables false
variable {P : Program}
/-- The k-th name behind what a state has. -/
noncomputable def nm (s : St) (k : Nat) : Id := Id.ofNat (s.n.val + k)
/-- A state, and blocks behind it. -/
noncomputable def Sx (s : St) : List AO → St := fun l => l.foldl St.push s
/-- Nothing lies behind. -/
structure Room (s : St) : Prop where
  n : 0 ≤ s.n.val
  clean : ∀ b : Id, s.n.val ≤ b.val → s.obj b = .dead
theorem Sx_nil (s : St) : Sx s [] = s := rfl
theorem Sx_snoc (s : St) (l : List AO) (o : AO) : Sx s (l ++ [o]) = (Sx s l).push o := by unfold Sx; rw [List.foldl_append]; rfl
theorem foldl_n (l : List AO) : ∀ (s : St), (l.foldl St.push s).n.val = s.n.val + l.length := by
  induction l with
  | nil => intro s; rfl
  | cons o l ih =>
    intro s
    simp only [List.length_cons]
    rw [List.foldl_cons, ih, push_n]; omega
theorem Sx_n {s : St} {l : List AO} (hr : Room s) (hl : l.length ≤ 5000) : (Sx s l).n.val = s.n.val + l.length := foldl_n l s
theorem nm_val {s : St} (hr : Room s) {k : Nat} (hk : k ≤ 5000) : (nm s k).val = s.n.val + k := Id.val_of _
theorem Sx_n' {s : St} {l : List AO} (hr : Room s) (hl : l.length ≤ 5000) : (Sx s l).n = nm s l.length := Id.val_inj (by rw [Sx_n hr hl, nm_val hr hl])
theorem foldl_obj (l : List AO) : ∀ (s : St) (b : Id), (l.foldl St.push s).obj b = if b.val < s.n.val then s.obj b else if h : b.val - s.n.val < l.length then l[b.val - s.n.val] else s.obj b := by
  induction l with
  | nil => intro s b; simp
  | cons o l ih =>
    intro s b
    simp only [List.length_cons]
    have hn := push_n (s := s) o
    rw [List.foldl_cons, ih, hn]
    by_cases h1 : b.val < s.n.val
    · rw [if_pos h1, if_pos (by omega), push_old h1]
    · rw [if_neg h1]
      by_cases h2 : b.val = s.n.val
      · rw [if_pos (by omega), Id.val_inj h2, push_self]
        have e : s.n.val - s.n.val = 0 := by omega
        simp
      · rw [if_neg (by omega)]
        have hp : (s.push o).obj b = s.obj b := by rw [push_obj, if_neg]; intro e; rw [e] at h2; exact h2 rfl
        by_cases h3 : b.val - s.n.val < l.length + 1
        · rw [dif_pos (by omega), dif_pos (by simpa using h3)]
          have e : b.val - s.n.val = (b.val - (s.n.val + 1)) + 1 := by omega
          simp only [e, List.getElem_cons_succ]
        · rw [dif_neg (by omega), dif_neg (by simpa using h3), hp]
theorem Sx_obj {s : St} {l : List AO} (hr : Room s) (hl : l.length ≤ 5000) {i : Nat} (hi : i < l.length) : (Sx s l).obj (nm s i) = l[i] := by
  show (l.foldl St.push s).obj _ = _
  rw [foldl_obj l s, nm_val hr (by omega), if_neg (by omega), dif_pos (by omega)]
  congr 1; omega
theorem Sx_old {s : St} {l : List AO} (hr : Room s) (hl : l.length ≤ 5000) {b : Id} (hb : b.val < s.n.val) : (Sx s l).obj b = s.obj b := by
  show (l.foldl St.push s).obj _ = _
  rw [foldl_obj l s, if_pos hb]
theorem ext_Sx {s : St} {l : List AO} (hr : Room s) (hl : l.length ≤ 5000) : Ext s (Sx s l) := ⟨by rw [Sx_n hr hl]; omega, fun b hb => Sx_old hr hl hb⟩
theorem tab_put_put (s : St) (b : Id) (o o' : AO) (c : Id) : ((s.put b o).put b o').obj c = (s.put b o').obj c := by
  rw [St.obj_put, St.obj_put, St.obj_put]; by_cases h : c = b <;> simp [h]
/-! Two states are the same that say the same: tables are what they tell. -/
theorem F16.ext' {α : Type} {f g : F16 α} (h : ∀ d : D16, d.get f = d.get g) : f = g := by
  cases f; cases g
  have h0 := h .d0; have h1 := h .d1; have h2 := h .d2; have h3 := h .d3; have h4 := h .d4; have h5 := h .d5; have h6 := h .d6; have h7 := h .d7
  have h8 := h .d8; have h9 := h .d9; have h10 := h .d10; have h11 := h .d11; have h12 := h .d12; have h13 := h .d13; have h14 := h .d14; have h15 := h .d15
  simp only [D16.get, g0, g1, g2, g3, g4, g5, g6, g7, g8, g9, g10, g11, g12, g13, g14, g15] at h0 h1 h2 h3 h4 h5 h6 h7 h8 h9 h10 h11 h12 h13 h14 h15
  subst h0 h1 h2 h3 h4 h5 h6 h7 h8 h9 h10 h11 h12 h13 h14 h15
  rfl
theorem Fr.ext' {α : Type} {f g : Fr α} (h : ∀ s : Sl, s.get f = s.get g) : f = g := F16.ext' fun i => F16.ext' fun j => h (.mk i j)
theorem St.ext' {s t : St} (hn : s.n = t.n) (ho : ∀ b, s.obj b = t.obj b) : s = t := by
  cases s with | mk h n => cases t with | mk k m =>
  have e : h = k := Tab.ext' ho Fr.ext'
  have e2 : n = m := hn
  rw [e, e2]
theorem Sx_put {s : St} {l : List AO} (hr : Room s) (hl : l.length ≤ 5000) {i : Nat} (hi : i < l.length) (o : AO) : (Sx s l).put (nm s i) o = Sx s (l.set i o) := by
  have hl' : (l.set i o).length ≤ 5000 := by rw [List.length_set]; exact hl
  refine St.ext' (by rw [put_n, Sx_n' hr hl, Sx_n' hr hl', List.length_set]) (fun b => ?_)
  rw [St.obj_put]
  show _ = ((l.set i o).foldl St.push s).obj b
  rw [foldl_obj _ s]
  by_cases hb : b = nm s i
  · have hv := nm_val hr (k := i) (by omega)
    rw [if_pos hb, hb, hv, if_neg (by omega), dif_pos (by rw [List.length_set]; omega)]
    have e : s.n.val + i - s.n.val = i := by omega
    simp only [e, List.getElem_set_self]
  · rw [if_neg hb]
    show (l.foldl St.push s).obj b = _
    rw [foldl_obj _ s]
    by_cases h1 : b.val < s.n.val
    · rw [if_pos h1, if_pos h1]
    · rw [if_neg h1, if_neg h1]
      by_cases h2 : b.val - s.n.val < l.length
      · rw [dif_pos h2, dif_pos (by rw [List.length_set]; exact h2), List.getElem_set_ne]
        intro e
        apply hb
        apply Id.val_inj
        rw [nm_val hr (by omega)]; omega
      · rw [dif_neg h2, dif_neg (by rw [List.length_set]; exact h2)]
theorem Sx_alloc {s : St} {l : List AO} (hr : Room s) (hl : l.length ≤ 5000) (o : AO) (k : Id → St → R) : (Sx s l).alloc o k = k (nm s l.length) (Sx s (l ++ [o])) := by
  rw [alloc_push, Sx_n' hr hl, Sx_snoc]
/-! ### Operations that make and write -/
section
variable {s : St} {l : List AO} (hr : Room s) (hl : l.length ≤ 5000)
include hr hl
theorem Sx_box (cs : List AV) : vbox (.agg cs) (Sx s l) = .ok (.ptr (nm s l.length) 0) (Sx s (l ++ [.cells cs])) := by
  show (Sx s l).alloc (.cells cs) (fun b s => .ok (.ptr b 0) s) = _; rw [Sx_alloc hr hl]
theorem Sx_box1 (a : AV) (ha : a.one = true) : vbox a (Sx s l) = .ok (.ptr (nm s l.length) 0) (Sx s (l ++ [.cells [a]])) := by
  cases a <;> first | (show (Sx s l).alloc (.cells [_]) (fun b s => .ok (.ptr b 0) s) = _; rw [Sx_alloc hr hl]; done) | cases ha
theorem Sx_new (call : CallT) (f : Fr AV) (z : List AV) : exop (.alloc z) call f (Sx s l) = .ok (.ptr (nm s l.length) 0) (Sx s (l ++ [.cells z])) := by
  show (Sx s l).alloc (.cells z) (fun b s => .ok (.ptr b 0) s) = _; rw [Sx_alloc hr hl]
noncomputable def vnew (z : List AV) (s : St) : R := s.alloc (.cells z) fun b s => .ok (.ptr b 0) s
theorem Sx_obj? {i : Nat} {o : AO} (hi : l[i]? = some o) : (Sx s l).obj (nm s i) = o := by
  obtain ⟨h1, h2⟩ := List.getElem?_eq_some_iff.mp hi
  rw [Sx_obj hr hl h1, h2]
end
noncomputable def vstore (sz : Nat) (p a : AV) (s : St) : R := p.onPtr .no (fun b o => vcells (s.obj b) fun cs => a.lay fun l => br (Nat.beq l.length sz) (br (Nat.ble (o + sz) cs.length) (.ok undef (s.put b (.cells (splice o l cs)))) .no) .no) fun _ => .no
theorem p_store (call : CallT) (f : Fr AV) (s : St) (sz : Nat) (x y : CO) : exop (.store sz x y) call f s = vstore sz (ev1 f x) (ev1 f y) s := by
  show (ev1 f x).onPtr R.no (fun b o => (s.obj b).onCells .no fun cs => (ev1 f y).lay fun l => br (Nat.beq (ln l) sz) (br (Nat.ble (Nat.add o sz) (ln cs)) (.ok undef (s.put b (.cells (splice o l cs)))) .no) .no) (fun _ => .no) = _
  simp only [ln_eq]; rfl
theorem splice_whole {α : Type} (xs l : List α) (h : xs.length = l.length) : splice 0 xs l = xs := by
  apply List.ext_getElem?
  intro j
  rw [splice_get]
  by_cases hj : j < l.length
  · rw [if_pos hj, if_pos (by omega)]; simp
  · rw [if_neg hj, List.getElem?_eq_none (by omega)]
theorem splice_one {α : Type} (o : Nat) (x : α) (l : List α) : splice o [x] l = l.set o x := by
  apply List.ext_getElem?
  intro j
  rw [splice_get, List.getElem?_set]
  by_cases hj : j < l.length
  · rw [if_pos hj]
    by_cases h : o = j
    · subst h; rw [if_pos (by simp), if_pos rfl, if_pos hj]; simp
    · rw [if_neg (by simp; omega), if_neg h]
  · rw [if_neg hj]
    by_cases h : o = j
    · subst h; rw [if_pos rfl, if_neg hj]
    · rw [if_neg h, List.getElem?_eq_none (by omega)]
theorem vstore_agg {s : St} {l : List AO} (hr : Room s) (hl : l.length ≤ 5000) {i sz : Nat} {cs : List AV} {old : List AV} (ho : l[i]? = some (.cells old)) (h1 : cs.length = sz) (h2 : old.length = sz) :
    vstore sz (.ptr (nm s i) 0) (.agg cs) (Sx s l) = .ok undef (Sx s (l.set i (.cells cs))) := by
  have hi := (List.getElem?_eq_some_iff.mp ho).1
  show vcells ((Sx s l).obj (nm s i)) _ = _
  rw [Sx_obj? hr hl ho, vcells_cells]
  show br (Nat.beq cs.length sz) (br (Nat.ble (0 + sz) old.length) (R.ok undef ((Sx s l).put (nm s i) (.cells (splice 0 cs old)))) .no) .no = _
  rw [show Nat.beq cs.length sz = true by rw [h1]; exact Nat.beq_refl sz, show Nat.ble (0 + sz) old.length = true by rw [Nat.ble_eq]; omega, splice_whole _ _ (by omega), Sx_put hr hl hi]; rfl
theorem vstore_one {s : St} {l : List AO} (hr : Room s) (hl : l.length ≤ 5000) {i o : Nat} {a : AV} {old : List AV} (ho : l[i]? = some (.cells old)) (ha : a.one = true) (h2 : o < old.length) :
    vstore 1 (.ptr (nm s i) o) a (Sx s l) = .ok undef (Sx s (l.set i (.cells (old.set o a)))) := by
  have hi := (List.getElem?_eq_some_iff.mp ho).1
  show vcells ((Sx s l).obj (nm s i)) _ = _
  rw [Sx_obj? hr hl ho, vcells_cells]
  have key : ∀ k : List AV → R, a.lay k = k [a] := fun k => by cases a <;> first | rfl | cases ha
  rw [key]
  show br (Nat.ble (o + 1) old.length) (R.ok undef ((Sx s l).put (nm s i) (.cells (splice o [a] old)))) .no = _
  rw [show Nat.ble (o + 1) old.length = true by rw [Nat.ble_eq]; omega, splice_one, Sx_put hr hl hi]; rfl
theorem WF_S {call : CallT} {nt : Nat} {res : List Res} {body : CC} {args : List AV} {s : St} {K : AV → St → Prop} (h : args.length ≤ nt) (hw : W call body (fun f s => Rs K res f s) (fun _ _ _ => False) (fun f s => Rs K res f s) (frame0 args) (Sx s [])) : WF call (.mk nt res body) args s K := WF_mk h hw
theorem p_new (call : CallT) (f : Fr AV) (s : St) (z : List AV) : exop (.alloc z) call f s = vnew z s := nd rfl
theorem Sx_vnew {s : St} {l : List AO} (hr : Room s) (hl : l.length ≤ 5000) (z : List AV) : vnew z (Sx s l) = .ok (.ptr (nm s l.length) 0) (Sx s (l ++ [.cells z])) := by
  show (Sx s l).alloc (.cells z) (fun b s => .ok (.ptr b 0) s) = _; rw [Sx_alloc hr hl]
theorem Sx_objD {s : St} {l : List AO} (hr : Room s) (hl : l.length ≤ 5000) {i : Nat} (hi : i < l.length) : (Sx s l).obj (nm s i) = (l[i]?).getD .dead := by
  rw [Sx_obj hr hl hi, List.getElem?_eq_getElem hi]; rfl
/-! ### Literals -/
noncomputable def fillV (f : Fr AV) : List Part → List AV → (List AV → R) → R
  | [], z, k => k z
  | p :: ps, z, k => (ev1 f p.x).lay fun l => br (Nat.beq l.length p.size) (br (Nat.ble (p.off + p.size) z.length) (fillV f ps (splice p.off l z) k) .no) .no
theorem fill_eq (f : Fr AV) (ps : List Part) : ∀ (z : List AV) (k : List AV → R), fill f ps z k = fillV f ps z k := by
  induction ps with
  | nil => intro z k; rfl
  | cons p ps ih =>
    intro z k
    obtain ⟨o, n, x⟩ := p
    show (ev1 f x).lay (fun l => br (Nat.beq (ln l) n) (br (Nat.ble (Nat.add o n) (ln z)) (fill f ps (splice o l z) k) .no) .no) = (ev1 f x).lay fun l => br (Nat.beq l.length n) (br (Nat.ble (o + n) z.length) (fillV f ps (splice o l z) k) .no) .no
    simp only [ln_eq, ih]; rfl
theorem fillV_nil (f : Fr AV) (z : List AV) (k : List AV → R) : fillV f [] z k = k z := nd rfl
/-- A value's cells. -/
noncomputable def layV (a : AV) (k : List AV → R) (h : Hold k := .mk) : R := a.lay k
theorem layV_agg (cs : List AV) (k : List AV → R) : layV (.agg cs) k = k cs := nd rfl
theorem layV_one (a : AV) (h : a.one = true) (k : List AV → R) : layV a k = k [a] := by cases a <;> first | rfl | cases h
theorem fillV_cons (f : Fr AV) (o n : Nat) (x : CO) (ps : List Part) (z : List AV) (k : List AV → R) : fillV f (⟨o, n, x⟩ :: ps) z k = layV (ev1 f x) fun l => if l.length = n ∧ o + n ≤ z.length then fillV f ps (splice o l z) k else .no := by
  show (ev1 f x).lay (fun l => br (Nat.beq l.length n) (br (Nat.ble (o + n) z.length) (fillV f ps (splice o l z) k) .no) .no) = _
  unfold layV
  congr 1; funext l
  by_cases h1 : l.length = n
  · by_cases h2 : o + n ≤ z.length
    · rw [if_pos ⟨h1, h2⟩, show Nat.beq l.length n = true by rw [h1]; exact Nat.beq_refl n, show Nat.ble (o + n) z.length = true by rw [Nat.ble_eq]; exact h2]; rfl
    · rw [if_neg (fun h => h2 h.2), show Nat.ble (o + n) z.length = false by rw [← Bool.not_eq_true, Nat.ble_eq]; exact h2]; cases Nat.beq l.length n <;> rfl
  · rw [if_neg (fun h => h1 h.1), show Nat.beq l.length n = false by cases hb : Nat.beq l.length n with | false => rfl | true => exact absurd (Nat.eq_of_beq_eq_true hb) h1]; rfl
theorem p_build (call : CallT) (f : Fr AV) (s : St) (z : List AV) (ps : List Part) : exop (.build z ps) call f s = fillV f ps z fun cs => .ok (.agg cs) s := fill_eq f ps z _
noncomputable def vblit (len : Nat) (cs : List AV) (s : St) : R := s.alloc (.cells cs) fun b s => .ok (.sl b 0 len len 0) s
theorem p_blit (call : CallT) (f : Fr AV) (s : St) (len : Nat) (z : List AV) (ps : List Part) : exop (.blit len z ps) call f s = fillV f ps (reps len z) fun cs => vblit len cs s := fill_eq f ps _ _
theorem Sx_blit {s : St} {l : List AO} (hr : Room s) (hl : l.length ≤ 5000) (len : Nat) (cs : List AV) : vblit len cs (Sx s l) = .ok (.sl (nm s l.length) 0 len len 0) (Sx s (l ++ [.cells cs])) := Sx_alloc hr hl _ _
theorem reps_0 {α : Type} (z : List α) : reps 0 z = [] := nd rfl
theorem reps_s {α : Type} (n : Nat) (z : List α) : reps (n + 1) z = z ++ reps n z := by show apd z (reps n z) = _; rw [apd_eq]
theorem one_bool (b : Bool) : (AV.bool b).one = true := nd rfl
theorem one_int (k : IntKind) (n : Int) : (AV.int k n).one = true := nd rfl
theorem one_str (l : List UInt8) : (AV.str l).one = true := nd rfl
theorem one_nils : AV.nils.one = true := nd rfl
theorem one_slv (b : Id) (o l c x : Nat) : (AV.sl b o l c x).one = true := nd rfl
theorem one_tsv (cs : List AV) (l c : Nat) (x : Bool) : (AV.ts cs l c x).one = true := nd rfl
theorem IsSl.one {s : St} {v : AV} (h : IsSl s v) : v.one = true := by cases h <;> rfl
/-! ### Results in memory -/
noncomputable def vcell (agg : Bool) (sz : Nat) (p : AV) (s : St) : R := p.onPtr .no (fun b o => vcells (s.obj b) fun cs => wrap1 agg sz (cs.drop o) s) fun _ => .no
theorem vcell_ptr (agg : Bool) (sz : Nat) (b : Id) (o : Nat) (s : St) : vcell agg sz (.ptr b o) s = vcells (s.obj b) fun cs => wrap1 agg sz (cs.drop o) s := nd rfl
def Rl0 : List Res → Fr AV → St → (List AV → Prop) → Prop
  | [], _, _, k => k []
  | .tmp t :: l, f, s, k => Rl0 l f s fun vs => k (t.get f :: vs)
  | .cell t agg sz :: l, f, s, k => onP (vcell agg sz (t.get f) s) fun v _ => Rl0 l f s fun vs => k (v :: vs)
def Rl (l : List Res) (f : Fr AV) (s : St) (k : List AV → Prop) (h : Hold k := .mk) : Prop := Rl0 l f s k
theorem ress_Rl (res : List Res) (f : Fr AV) (s : St) (K : AV → St → Prop) : ∀ (k : List AV → R) (k' : List AV → Prop), (∀ vs, onP (k vs) K = k' vs) → onP (ress f s res k) K = Rl res f s k' := by
  induction res with
  | nil => intro k k' h; exact h []
  | cons r l ih =>
    intro k k' h
    cases r with
    | tmp t => exact ih (fun vs => k (t.get f :: vs)) (fun vs => k' (t.get f :: vs)) (fun vs => h _)
    | cell t agg sz =>
      show onP (((t.get f).onPtr R.no (fun b o => (s.obj b).onCells .no fun cs => wrap1 agg sz (dr o cs) s) fun _ => .no).on .no fun v _ => ress f s l fun vs => k (v :: vs)) K = onP (vcell agg sz (t.get f) s) fun v _ => Rl l f s fun vs => k' (v :: vs)
      have e : ((t.get f).onPtr R.no (fun b o => (s.obj b).onCells .no fun cs => wrap1 agg sz (dr o cs) s) fun _ => .no) = vcell agg sz (t.get f) s := by simp only [dr_eq]; rfl
      rw [e]
      cases vcell agg sz (t.get f) s with
      | no => rfl
      | ok v s1 => exact ih (fun vs => k (v :: vs)) (fun vs => k' (v :: vs)) (fun vs => h _)
theorem Rs_l (K : AV → St → Prop) (res : List Res) (f : Fr AV) (s : St) : Rs K res f s = Rl res f s fun vs => K (pack vs) s := ress_Rl res f s K _ _ (fun vs => rfl)
theorem Rl_nil (f : Fr AV) (s : St) (k : List AV → Prop) : Rl [] f s k = k [] := nd rfl
theorem Rl_tmp (t : Sl) (l : List Res) (f : Fr AV) (s : St) (k : List AV → Prop) : Rl (.tmp t :: l) f s k = Rl l f s fun vs => k (t.get f :: vs) := nd rfl
theorem Rl_cell (t : Sl) (agg : Bool) (sz : Nat) (l : List Res) (f : Fr AV) (s : St) (k : List AV → Prop) : Rl (.cell t agg sz :: l) f s k = onP (vcell agg sz (t.get f) s) fun v _ => Rl l f s fun vs => k (v :: vs) := nd rfl
theorem pack_1 (a : AV) : pack [a] = a := nd rfl
theorem pack_2 (a b : AV) : pack [a, b] = .tup [a, b] := nd rfl
theorem pack_3 (a b c : AV) : pack [a, b, c] = .tup [a, b, c] := nd rfl
theorem vcells_ext (o : AO) {k k' : List AV → R} (h : ∀ l, k l = k' l) : vcells o k = vcells o k' := by
  have : k = k' := funext h
  rw [this]
theorem layV_ext (a : AV) {k k' : List AV → R} (h : ∀ l, k l = k' l) : layV a k = layV a k' := by
  have : k = k' := funext h
  rw [this]
theorem vstore_ptr (sz : Nat) (b : Id) (o : Nat) (a : AV) (s : St) : vstore sz (.ptr b o) a s = vcells (s.obj b) fun cs => layV a fun l => if l.length = sz ∧ o + sz ≤ cs.length then .ok undef (s.put b (.cells (splice o l cs))) else .no := by
  show vcells (s.obj b) (fun cs => a.lay fun l => br (Nat.beq l.length sz) (br (Nat.ble (o + sz) cs.length) (.ok undef (s.put b (.cells (splice o l cs)))) .no) .no) = _
  refine vcells_ext _ fun cs => ?_
  refine layV_ext a (k := fun l => br (Nat.beq l.length sz) (br (Nat.ble (o + sz) cs.length) (.ok undef (s.put b (.cells (splice o l cs)))) .no) .no) fun l => ?_
  by_cases h1 : l.length = sz
  · by_cases h2 : o + sz ≤ cs.length
    · rw [if_pos ⟨h1, h2⟩, show Nat.beq l.length sz = true by rw [h1]; exact Nat.beq_refl sz, show Nat.ble (o + sz) cs.length = true by rw [Nat.ble_eq]; exact h2]; rfl
    · rw [if_neg (fun h => h2 h.2), show Nat.ble (o + sz) cs.length = false by rw [← Bool.not_eq_true, Nat.ble_eq]; exact h2]; cases Nat.beq l.length sz <;> rfl
  · rw [if_neg (fun h => h1 h.1), show Nat.beq l.length sz = false by cases hb : Nat.beq l.length sz with | false => rfl | true => exact absurd (Nat.eq_of_beq_eq_true hb) h1]; rfl
theorem isl_nils (s : St) : IsSl s .nils := .nils
attribute [go_sem] vstore_ptr p_new Sx_vnew Sx_objD Sx_put Sx_box Sx_box1 Sx_blit splice_whole splice_one layV_one one_bool one_int one_str one_nils one_slv one_tsv
attribute [go_sem] List.length_cons List.length_nil List.cons_append List.nil_append List.set_cons_succ List.set_cons_zero List.getElem?_cons_succ List.getElem?_cons_zero Option.getD_some List.take_succ_cons List.take_zero and_self and_true true_and decide_eq_true_eq Bool.false_eq_true wrap1_agg
attribute [go_sem] Rs_l Rl_nil Rl_tmp Rl_cell pack_1 pack_2 pack_3 vcell_ptr p_store p_build p_blit fillV_nil fillV_cons layV_agg reps_0 reps_s
theorem settled_bool {s s0 : St} {a b : Bool} (h : Ext s s0) (e : a = b) : Settled s (.bool a) s0 (.bool b) s := by rw [e]; exact settled_flat h rfl
theorem settled_int {s s0 : St} {k : IntKind} {a b : Int} (h : Ext s s0) (e : a = b) : Settled s (.int k a) s0 (.int k b) s := by rw [e]; exact settled_flat h rfl
end Go.Vm
namespace Go.Vm
set_option linter.unusedVariables false
variable {P : Program}
theorem Room.Sx {s : St} {l : List AO} (hr : Room s) (hl : s.n.val + l.length ≤ 60000) (hl' : l.length ≤ 5000) : Room (Sx s l) := by
  refine ⟨Nat.zero_le _, fun b hb => ?_⟩
  rw [Sx_n hr hl'] at hb
  show (l.foldl St.push s).obj b = _
  rw [foldl_obj l s, if_neg (by omega), dif_neg (by omega)]
  exact hr.clean b (by omega)
theorem Room.sx {s : St} {l : List AO} (hr : Room s) (hl' : l.length ≤ 5000) : Room (Vm.Sx s l) := by
  refine ⟨Nat.zero_le _, fun b hb => ?_⟩
  rw [Sx_n hr hl'] at hb
  show (l.foldl St.push s).obj b = _
  rw [foldl_obj l s, if_neg (by omega), dif_neg (by omega)]
  exact hr.clean b (by omega)
/-- What is pending, laid down. -/
noncomputable def flushS : List Pd → St → St
  | [], s => s
  | p :: l, s => flushS l (s.put p.b p.o)
theorem flushS_eq (l : List Pd) : ∀ (h : Tab AO) (n : Id), flushS l (.mk h n) = .mk (flush l h) n := by
  induction l with
  | nil => intro h n; rfl
  | cons p l ih => intro h n; exact ih _ n
noncomputable def Wd (call : CallT) (l : List DR) (K : Fr AV → St → Prop) (b : Id) (f : Fr AV) (s : St) (ps : List Pd) (rs : List Rd) (ws : List Wr) (h : Hold K := .mk) : Prop := onC (exdraw call l b f s.h s.n ps rs ws) K (fun _ _ _ => False) fun _ _ => False
theorem St.eta' (s : St) : St.mk s.h s.n = s := by cases s; rfl
def okR (pre : Nat) (s : St) : List Rd → Prop
  | [] => True
  | r :: l => (bit pre r.i = true ∨ onP (exop r.op noCall r.f s) fun u _ => u = r.v) ∧ okR pre s l
def okW (pre : Nat) (n : Id) (f : Fr AV) (op : COp) (v : AV) : List Wr → Prop
  | [] => True
  | w :: l => (bit pre w.i = true ∨ onP (exop op noCall f (.mk w.h n)) fun u _ => u = v) ∧ okW pre n f op v l
def okP (pre : Nat) : List Wr → Prop
  | [] => True
  | w :: l => bit pre w.i = true ∧ okP pre l
theorem like_self : ∀ (n : Nat), (∀ a : AV, SizeOf.sizeOf a ≤ n → like a a = true) ∧ (∀ l : List AV, SizeOf.sizeOf l ≤ n → like.likes l l = true) := by
  intro n
  induction n with
  | zero =>
    refine ⟨fun a h => ?_, fun l h => ?_⟩
    · cases a <;> simp at h
    · cases l <;> simp at h
  | succ n ih =>
    refine ⟨fun a h => ?_, fun l h => ?_⟩
    · cases a with
      | int k i => simp [like, (keq_iff k k).mpr rfl]
      | tp l => simp only [like]; exact ih.2 l (by simp at h; omega)
      | ts l _ _ _ => simp only [like, ih.2 l (by simp at h; omega)]; simp
      | agg l => simp only [like]; exact ih.2 l (by simp at h; omega)
      | tup l => simp only [like]; exact ih.2 l (by simp at h; omega)
      | fn f a b => simp only [like, ih.2 a (by simp at h; omega), ih.2 b (by simp at h; omega)]; simp
      | ifc t a => simp only [like, ih.1 a (by simp at h; omega)]; simp
      | _ => simp [like]
    · cases l with
      | nil => rfl
      | cons a l => simp only [like.likes, ih.1 a (by simp at h; omega), ih.2 l (by simp at h; omega)]; rfl
theorem again_of {h : Tab AO} {n : Id} {f : Fr AV} {op : COp} {v : AV} (k : onP (exop op noCall f (.mk h n)) fun u _ => u = v) : again h n f op v = true := by
  unfold again
  cases hx : exop op noCall f (.mk h n) with
  | no => rw [hx] at k; exact k.elim
  | ok u s => rw [hx] at k; have k' : u = v := k; rw [k']; exact (like_self (SizeOf.sizeOf v)).1 v (Nat.le_refl _)
theorem okR_reads {pre : Nat} {h : Tab AO} {n : Id} {l : List Rd} (k : okR pre (.mk h n) l) : readsOk pre h n l = true := by
  induction l with
  | nil => rfl
  | cons r l ih =>
    simp only [readsOk, Bool.and_eq_true, Bool.or_eq_true]
    exact ⟨k.1.imp id again_of, ih k.2⟩
theorem okW_writes {pre : Nat} {n : Id} {f : Fr AV} {op : COp} {v : AV} {l : List Wr} (k : okW pre n f op v l) : writesOk pre n f op v l = true := by
  induction l with
  | nil => rfl
  | cons r l ih =>
    simp only [writesOk, Bool.and_eq_true, Bool.or_eq_true]
    exact ⟨k.1.imp id again_of, ih k.2⟩
theorem okP_all {pre : Nat} {l : List Wr} (k : okP pre l) : allPre pre (l.map (·.i)) = true := by
  induction l with
  | nil => rfl
  | cons r l ih => simp only [List.map_cons, allPre, Bool.and_eq_true]; exact ⟨k.1, ih k.2⟩
noncomputable def keepP (pre : Nat) (y : Bool) : List Pd → List Pd
  | [] => []
  | p :: l => if bit pre p.i = y then p :: keepP pre y l else keepP pre y l
theorem keepP_t (pre : Nat) (l : List Pd) : l.filter (fun p => bit pre p.i) = keepP pre true l := by
  induction l with
  | nil => rfl
  | cons p l ih => simp only [List.filter_cons, keepP, ih]
theorem keepP_f (pre : Nat) (l : List Pd) : l.filter (fun p => !bit pre p.i) = keepP pre false l := by
  induction l with
  | nil => rfl
  | cons p l ih => simp only [List.filter_cons, keepP, ih]; cases bit pre p.i <;> rfl
section
variable {call : CallT} {K : Fr AV → St → Prop} {b : Id} {f : Fr AV} {s : St} {ps : List Pd} {rs : List Rd} {ws : List Wr}
theorem Wd_nil : Wd call [] K b f s ps rs ws = K f (flushS ps s) := by
  show K f (.mk (flush ps s.h) s.n) = _
  rw [← flushS_eq, St.eta']
variable {b' : Id} (hb : b.up (none : Option Id) some = some b') (i pre : Nat) (o : CR) (l : List DR)
include hb
theorem up_of {β : Type} (n : β) (k : Id → β) : b.up n k = k b' := by
  rcases Id.up_cases b with h | ⟨y, hy, h⟩
  · rw [h] at hb; cases hb
  · rw [h] at hb; cases hb; exact h _ _
theorem Wd_step (d : CD) (op : COp) (g : CG) (k : Kind) (hg : wanted g f = true) (hK : onC (exkind call (exdraw call l b') i pre d op b f s.h s.n ps rs ws k) K (fun _ _ _ => False) fun _ _ => False) : Wd call (.mk i pre k (.mk d op g) :: l) K b f s ps rs ws := by
  show onC (b.up .no fun b' => br (wanted g f) (exkind call (exdraw call l b') i pre d op b f s.h s.n ps rs ws k) (exdraw call l b' (putD d undef f) s.h s.n ps rs ws)) K _ _
  rw [up_of hb, hg]; exact hK
theorem Wd_skip (d : CD) (op : COp) (g : CG) (k : Kind) (hg : wanted g f = false) (hK : Wd call l K b' (putD d undef f) s ps rs ws) : Wd call (.mk i pre k (.mk d op g) :: l) K b f s ps rs ws := by
  show onC (b.up .no fun b' => br (wanted g f) (exkind call (exdraw call l b') i pre d op b f s.h s.n ps rs ws k) (exdraw call l b' (putD d undef f) s.h s.n ps rs ws)) K _ _
  rw [up_of hb, hg]; exact hK
theorem Wd_quiet (d : CD) (op : COp) (g : CG) (hg : wanted g f = true) (hK : onP (exop op noCall f .empty) fun v _ => Wd call l K b' (putD d v f) s ps rs ws) : Wd call (.mk i pre .quiet (.mk d op g) :: l) K b f s ps rs ws := by
  refine Wd_step hb i pre l d op g .quiet hg ?_
  show onC ((exop op noCall f .empty).on .no _) K _ _
  rw [onC_on]; exact hK
theorem Wd_read (d : CD) (op : COp) (g : CG) (hg : wanted g f = true) (hK : onP (exop op noCall f s) fun v _ => okW pre s.n f op v ws ∧ Wd call l K b' (putD d v f) s ps (⟨i, f, op, v⟩ :: rs) ws) : Wd call (.mk i pre .read (.mk d op g) :: l) K b f s ps rs ws := by
  refine Wd_step hb i pre l d op g .read hg ?_
  show onC ((exop op noCall f (.mk s.h s.n)).on _ _) K _ _
  rw [St.eta']
  revert hK
  cases exop op noCall f s with
  | no => exact fun h => h.elim
  | ok v t =>
    rintro ⟨h1, h2⟩
    show onC (br (writesOk pre s.n f op v ws) _ _) K _ _
    rw [okW_writes h1]; exact h2
theorem Wd_alloc (d : CD) (op : COp) (g : CG) (hg : wanted g f = true) (hK : onP (exop op noCall f (.mk (.rep .dead) b)) fun v t => Wd call l K b' (putD d v f) s (⟨i, b, t.obj b⟩ :: ps) rs ws) : Wd call (.mk i pre .alloc (.mk d op g) :: l) K b f s ps rs ws := by
  refine Wd_step hb i pre l d op g .alloc hg ?_
  show onC ((exop op noCall f (.mk (.rep .dead) b)).on .no _) K _ _
  rw [onC_on]; exact hK
theorem Wd_mut (d : CD) (op : COp) (g : CG) (hg : wanted g f = true) (hp : okP pre ws) (hK : onP (exop op call f (flushS (keepP pre true ps) s)) fun v t => okR pre t rs ∧ Wd call l K b' (putD d v f) t (keepP pre false ps) rs (⟨i, s.h⟩ :: ws)) : Wd call (.mk i pre .mut (.mk d op g) :: l) K b f s ps rs ws := by
  refine Wd_step hb i pre l d op g .mut hg ?_
  show onC (br (allPre pre (ws.map (·.i))) ((exop op call f (.mk (flush (ps.filter fun p => bit pre p.i) s.h) s.n)).on .no fun v t => br (readsOk pre t.h t.n rs) (exdraw call l b' (putD d v f) t.h t.n (ps.filter fun p => !bit pre p.i) rs (⟨i, s.h⟩ :: ws)) .no) .no) K _ _
  rw [okP_all hp, keepP_t, keepP_f, ← flushS_eq, St.eta']
  show onC ((exop op call f (flushS (keepP pre true ps) s)).on .no _) K _ _
  rw [onC_on]
  revert hK
  cases exop op call f (flushS (keepP pre true ps) s) with
  | no => exact fun h => h
  | ok v t =>
    rintro ⟨h1, h2⟩
    show onC (br (readsOk pre t.h t.n rs) _ _) K _ _
    rw [okR_reads (h := t.h) (n := t.n) (by rw [St.eta']; exact h1)]; exact h2
end
/-! ### The same, for a function's own blocks -/
section
variable {call : CallT} {K : Fr AV → St → Prop} {f : Fr AV} {s : St} {l : List AO} {ps : List Pd} {rs : List Rd} {ws : List Wr} (hr : Room s)
include hr
theorem nm_up {k : Nat} (hk : k < 5000) : (nm s k).up (none : Option Id) some = some (nm s (k + 1)) := by
  obtain ⟨y, hy, h⟩ := Id.up_all (nm s k)
  rw [h]
  congr 1
  apply Id.val_inj
  rw [hy, nm_val hr (by omega), nm_val hr (by omega)]; rfl
theorem ups_nm (m : Nat) (k : Id → RC) : ∀ (j : Nat), j + m ≤ 5000 → ups m (nm s j) k = k (nm s (j + m)) := by
  induction m with
  | zero => intro j _; rfl
  | succ m ih =>
    intro j hj
    show (nm s j).up .no (fun n => ups m n k) = _
    rw [up_of (nm_up hr (k := j) (by omega)), ih (j + 1) (by omega)]
    congr 2; omega
theorem Sx_dead {k : Nat} (hl : l.length + k ≤ 5000) : St.mk (Sx s l).h (nm s (l.length + k)) = Sx s (l ++ List.replicate k .dead) := by
  have hlen : (l ++ List.replicate k AO.dead).length = l.length + k := by simp
  refine St.ext' (by rw [Sx_n' hr (by omega), hlen]; rfl) (fun b => ?_)
  show (Sx s l).obj b = _
  have hR := hr.n
  show (l.foldl St.push s).obj b = ((l ++ List.replicate k AO.dead).foldl St.push s).obj b
  rw [foldl_obj l s, foldl_obj _ s]
  by_cases h1 : b.val < s.n.val
  · rw [if_pos h1, if_pos h1]
  · rw [if_neg h1, if_neg h1]
    have hc := hr.clean b (by omega)
    by_cases h2 : b.val - s.n.val < l.length
    · rw [dif_pos h2, dif_pos (by omega), List.getElem_append_left h2]
    · rw [dif_neg h2]
      by_cases h3 : b.val - s.n.val < (l ++ List.replicate k AO.dead).length
      · rw [dif_pos h3, hc, List.getElem_append_right (by omega), List.getElem_replicate]
      · rw [dif_neg h3]
/-- A statement whose order is open. -/
theorem W_drawn {n : Fr AV → St → Prop} {e : Nat → Fr AV → St → Prop} {r : Fr AV → St → Prop} (ops : List DR) (hl : l.length + ops.length ≤ 5000) (h : Wd call ops n (nm s l.length) f (Sx s (l ++ List.replicate ops.length .dead)) [] [] []) : W call (.drawn ops) n e r f (Sx s l) := by
  refine ⟨0, ?_⟩
  show onC (ups ops.length (Sx s l).n fun n => exdraw call ops (Sx s l).n f (Sx s l).h n [] [] []) n e r
  rw [Sx_n' hr (by omega), ups_nm hr _ _ _ hl]
  have h' : onC (exdraw call ops (nm s l.length) f (Sx s (l ++ List.replicate ops.length .dead)).h (Sx s (l ++ List.replicate ops.length .dead)).n [] [] []) n (fun _ _ _ => False) fun _ _ => False := h
  rw [← Sx_dead hr hl] at h'
  exact onC_mono (fun _ _ h => h) (fun _ _ _ h => h.elim) (fun _ _ h => h.elim) h'
end
end Go.Vm
namespace Go.Vm
set_option linter.unusedVariables false
variable {P : Program}
/-- A reading: where it can't be done of what is there, of what is made and not yet put down. -/
noncomputable def onPe (r : R) (alt : Prop) (K : AV → St → Prop) (h : Hold3 alt K K := .mk) : Prop := R.rec alt K r
theorem onPe_ok (v : AV) (s : St) (alt : Prop) (K : AV → St → Prop) : onPe (.ok v s) alt K = K v s := nd rfl
theorem onPe_no (alt : Prop) (K : AV → St → Prop) : onPe .no alt K = alt := nd rfl
theorem onP_ext (r : R) {K K' : AV → St → Prop} (h : ∀ v t, K v t = K' v t) : onP r K = onP r K' := by
  have : K = K' := by funext v t; exact h v t
  rw [this]
section
variable {call : CallT} {K : Fr AV → St → Prop} {f : Fr AV} {s σ : St} {ps : List Pd} {rs : List Rd} {ws : List Wr} (hr : Room s) {k : Nat} (hk : k < 5000) (i pre : Nat) (l : List DR)
include hr hk
theorem Wd_eq (d : CD) (op : COp) (g : CG) (kd : Kind) : Wd call (.mk i pre kd (.mk d op g) :: l) K (nm s k) f σ ps rs ws = onC (br (wanted g f) (exkind call (exdraw call l (nm s (k + 1))) i pre d op (nm s k) f σ.h σ.n ps rs ws kd) (exdraw call l (nm s (k + 1)) (putD d undef f) σ.h σ.n ps rs ws)) K (fun _ _ _ => False) fun _ _ => False := by
  show onC ((nm s k).up .no fun b' => br (wanted g f) (exkind call (exdraw call l b') i pre d op (nm s k) f σ.h σ.n ps rs ws kd) (exdraw call l b' (putD d undef f) σ.h σ.n ps rs ws)) K _ _ = _
  rw [up_of (nm_up hr hk)]
theorem Wd_q0 (d : CD) (op : COp) : Wd call (.mk i pre .quiet (.mk d op .none) :: l) K (nm s k) f σ ps rs ws = onP (exop op noCall f .empty) fun v _ => Wd call l K (nm s (k + 1)) (putD d v f) σ ps rs ws := by
  rw [Wd_eq hr hk]
  show onC ((exop op noCall f .empty).on .no _) K _ _ = _
  rw [onC_on]; rfl
theorem Wd_q (d : Nat) (op : COp) : Wd call (.mk i pre .quiet (oo d op) :: l) K (nm s k) f σ ps rs ws = onP (exop op noCall f .empty) fun v _ => Wd call l K (nm s (k + 1)) ((vv d).set v f) σ ps rs ws := Wd_q0 hr hk i pre l _ op
theorem Wd_qm (d m : Nat) : Wd call (.mk i pre .quiet (mm d m) :: l) K (nm s k) f σ ps rs ws = Wd call l K (nm s (k + 1)) ((vv d).set ((vv m).get f) f) σ ps rs ws := Wd_q0 hr hk i pre l _ _
theorem Wd_qn (op : COp) : Wd call (.mk i pre .quiet (on op) :: l) K (nm s k) f σ ps rs ws = onP (exop op noCall f .empty) fun v _ => Wd call l K (nm s (k + 1)) f σ ps rs ws := Wd_q0 hr hk i pre l _ op
theorem Wd_qg (d : Nat) (op : COp) (g : Nat) (b : Bool) : Wd call (.mk i pre .quiet (og d op g b) :: l) K (nm s k) f σ ps rs ws = onG ((vv g).get f) b (onP (exop op noCall f .empty) fun v _ => Wd call l K (nm s (k + 1)) ((vv d).set v f) σ ps rs ws) (Wd call l K (nm s (k + 1)) ((vv d).set undef f) σ ps rs ws) := by
  unfold og
  rw [Wd_eq hr hk]
  show onC (br (((vv g).get f).onBool false fun t => br b t (br t false true)) _ _) K _ _ = br _ _ _
  cases (((vv g).get f).onBool false fun t => br b t (br t false true)) with
  | true =>
    show onC ((exop op noCall f .empty).on .no _) K _ _ = _
    rw [onC_on]; rfl
  | false => rfl
theorem Wd_r (d : Nat) (op : COp) : Wd call (.mk i pre .read (oo d op) :: l) K (nm s k) f σ ps rs ws = onPe (exop op noCall f σ) (onP (exop op noCall f (flushS (keepP pre true ps) (.mk (.rep .dead) σ.n))) fun v _ => Wd call l K (nm s (k + 1)) ((vv d).set v f) σ ps (⟨i, f, op, v⟩ :: rs) ws) fun v _ => writesOk pre σ.n f op v ws = true ∧ Wd call l K (nm s (k + 1)) ((vv d).set v f) σ ps (⟨i, f, op, v⟩ :: rs) ws := by
  unfold oo
  rw [Wd_eq hr hk]
  show onC ((exop op noCall f (.mk σ.h σ.n)).on ((exop op noCall f (.mk (flush (ps.filter fun p => bit pre p.i) (.rep .dead)) σ.n)).on .no _) _) K _ _ = _
  rw [St.eta', keepP_t, show (St.mk (flush (keepP pre true ps) (.rep .dead)) σ.n) = flushS (keepP pre true ps) (.mk (.rep .dead) σ.n) by rw [← flushS_eq]]
  cases exop op noCall f σ with
  | no =>
    show onC ((exop op noCall f (flushS (keepP pre true ps) (.mk (.rep .dead) σ.n))).on .no _) K _ _ = onP _ _
    rw [onC_on]; rfl
  | ok v t =>
  show onC (br (writesOk pre σ.n f op v ws) _ _) K _ _ = (writesOk pre σ.n f op v ws = true ∧ _)
  apply propext
  cases writesOk pre σ.n f op v ws with
  | true => exact ⟨fun h => ⟨rfl, h⟩, fun h => h.2⟩
  | false => exact ⟨fun h => h.elim, fun h => by cases h.1⟩
theorem Wd_rg (d : Nat) (op : COp) (g : Nat) (b : Bool) : Wd call (.mk i pre .read (og d op g b) :: l) K (nm s k) f σ ps rs ws = onG ((vv g).get f) b (onPe (exop op noCall f σ) (onP (exop op noCall f (flushS (keepP pre true ps) (.mk (.rep .dead) σ.n))) fun v _ => Wd call l K (nm s (k + 1)) ((vv d).set v f) σ ps (⟨i, f, op, v⟩ :: rs) ws) fun v _ => writesOk pre σ.n f op v ws = true ∧ Wd call l K (nm s (k + 1)) ((vv d).set v f) σ ps (⟨i, f, op, v⟩ :: rs) ws) (Wd call l K (nm s (k + 1)) ((vv d).set undef f) σ ps rs ws) := by
  have e1 := Wd_r (call := call) (K := K) (f := f) (σ := σ) (ps := ps) (rs := rs) (ws := ws) hr hk i pre l d op
  unfold oo at e1
  unfold og
  rw [Wd_eq hr hk] at e1 ⊢
  show onC (br (((vv g).get f).onBool false fun t => br b t (br t false true)) _ _) K _ _ = br _ _ _
  cases (((vv g).get f).onBool false fun t => br b t (br t false true)) with
  | true => exact e1
  | false => rfl
theorem Wd_a (d : Nat) (op : COp) : Wd call (.mk i pre .alloc (oo d op) :: l) K (nm s k) f σ ps rs ws = onP (exop op noCall f (.mk (.rep .dead) (nm s k))) fun v t => Wd call l K (nm s (k + 1)) ((vv d).set v f) σ (⟨i, nm s k, t.obj (nm s k)⟩ :: ps) rs ws := by
  unfold oo
  rw [Wd_eq hr hk]
  show onC ((exop op noCall f (.mk (.rep .dead) (nm s k))).on .no _) K _ _ = _
  rw [onC_on]; rfl
theorem Wd_ag (d : Nat) (op : COp) (g : Nat) (b : Bool) : Wd call (.mk i pre .alloc (og d op g b) :: l) K (nm s k) f σ ps rs ws = onG ((vv g).get f) b (onP (exop op noCall f (.mk (.rep .dead) (nm s k))) fun v t => Wd call l K (nm s (k + 1)) ((vv d).set v f) σ (⟨i, nm s k, t.obj (nm s k)⟩ :: ps) rs ws) (Wd call l K (nm s (k + 1)) ((vv d).set undef f) σ ps rs ws) := by
  have e1 := Wd_a (call := call) (K := K) (f := f) (σ := σ) (ps := ps) (rs := rs) (ws := ws) hr hk i pre l d op
  unfold oo at e1
  unfold og
  rw [Wd_eq hr hk] at e1 ⊢
  show onC (br (((vv g).get f).onBool false fun t => br b t (br t false true)) _ _) K _ _ = br _ _ _
  cases (((vv g).get f).onBool false fun t => br b t (br t false true)) with
  | true => exact e1
  | false => rfl
theorem Wd_m0 (d : CD) (op : COp) : Wd call (.mk i pre .mut (.mk d op .none) :: l) K (nm s k) f σ ps rs ws = (allPre pre (ws.map (·.i)) = true ∧ onP (exop op call f (flushS (keepP pre true ps) σ)) fun v t => readsOk pre t.h t.n rs = true ∧ Wd call l K (nm s (k + 1)) (putD d v f) t (keepP pre false ps) rs (⟨i, σ.h⟩ :: ws)) := by
  rw [Wd_eq hr hk]
  show onC (br (allPre pre (ws.map (·.i))) ((exop op call f (.mk (flush (ps.filter fun p => bit pre p.i) σ.h) σ.n)).on .no fun v t => br (readsOk pre t.h t.n rs) (exdraw call l (nm s (k + 1)) (putD d v f) t.h t.n (ps.filter fun p => !bit pre p.i) rs (⟨i, σ.h⟩ :: ws)) .no) .no) K _ _ = _
  rw [keepP_t, keepP_f, ← flushS_eq, St.eta']
  apply propext
  cases allPre pre (ws.map (·.i)) with
  | false => exact ⟨fun h => h.elim, fun h => by cases h.1⟩
  | true =>
    show onC ((exop op call f (flushS (keepP pre true ps) σ)).on .no _) K _ _ ↔ _
    rw [onC_on]
    have e : ∀ v t, onC (br (readsOk pre t.h t.n rs) (exdraw call l (nm s (k + 1)) (putD d v f) t.h t.n (keepP pre false ps) rs (⟨i, σ.h⟩ :: ws)) .no) K (fun _ _ _ => False) (fun _ _ => False) = (readsOk pre t.h t.n rs = true ∧ Wd call l K (nm s (k + 1)) (putD d v f) t (keepP pre false ps) rs (⟨i, σ.h⟩ :: ws)) := by
      intro v t
      apply propext
      cases readsOk pre t.h t.n rs with
      | true => exact ⟨fun h => ⟨rfl, h⟩, fun h => h.2⟩
      | false => exact ⟨fun h => h.elim, fun h => by cases h.1⟩
    rw [onP_ext _ e]; exact ⟨fun h => ⟨rfl, h⟩, fun h => h.2⟩
theorem Wd_m (d : Nat) (op : COp) : Wd call (.mk i pre .mut (oo d op) :: l) K (nm s k) f σ ps rs ws = (allPre pre (ws.map (·.i)) = true ∧ onP (exop op call f (flushS (keepP pre true ps) σ)) fun v t => readsOk pre t.h t.n rs = true ∧ Wd call l K (nm s (k + 1)) ((vv d).set v f) t (keepP pre false ps) rs (⟨i, σ.h⟩ :: ws)) := Wd_m0 hr hk i pre l _ op
theorem Wd_mn (op : COp) : Wd call (.mk i pre .mut (on op) :: l) K (nm s k) f σ ps rs ws = (allPre pre (ws.map (·.i)) = true ∧ onP (exop op call f (flushS (keepP pre true ps) σ)) fun v t => readsOk pre t.h t.n rs = true ∧ Wd call l K (nm s (k + 1)) f t (keepP pre false ps) rs (⟨i, σ.h⟩ :: ws)) := Wd_m0 hr hk i pre l .none op
theorem Wd_mg (d : Nat) (op : COp) (g : Nat) (b : Bool) : Wd call (.mk i pre .mut (og d op g b) :: l) K (nm s k) f σ ps rs ws = onG ((vv g).get f) b (allPre pre (ws.map (·.i)) = true ∧ onP (exop op call f (flushS (keepP pre true ps) σ)) fun v t => readsOk pre t.h t.n rs = true ∧ Wd call l K (nm s (k + 1)) ((vv d).set v f) t (keepP pre false ps) rs (⟨i, σ.h⟩ :: ws)) (Wd call l K (nm s (k + 1)) ((vv d).set undef f) σ ps rs ws) := by
  have e1 := Wd_m (call := call) (K := K) (f := f) (σ := σ) (ps := ps) (rs := rs) (ws := ws) hr hk i pre l d op
  unfold oo at e1
  unfold og
  rw [Wd_eq hr hk] at e1 ⊢
  show onC (br (((vv g).get f).onBool false fun t => br b t (br t false true)) _ _) K _ _ = br _ _ _
  cases (((vv g).get f).onBool false fun t => br b t (br t false true)) with
  | true => exact e1
  | false => rfl
end
theorem bit_def (m i : Nat) : bit m i = ((1 &&& (m >>> i)) != 0) := nd rfl
theorem again_P (h : Tab AO) (n : Id) (f : Fr AV) (op : COp) (v : AV) : (again h n f op v = true) = onP (exop op noCall f (.mk h n)) fun u _ => like u v = true := by
  unfold again
  cases exop op noCall f (.mk h n) with
  | no => exact propext ⟨fun h => Bool.noConfusion h, fun h => False.elim h⟩
  | ok u s => rfl
theorem readsOk_nil (pre : Nat) (h : Tab AO) (n : Id) : readsOk pre h n [] = true := nd rfl
theorem readsOk_P (pre : Nat) (h : Tab AO) (n : Id) (i : Nat) (f : Fr AV) (op : COp) (v : AV) (l : List Rd) : (readsOk pre h n (⟨i, f, op, v⟩ :: l) = true) = ((if bit pre i = true then True else again h n f op v = true) ∧ readsOk pre h n l = true) := by
  simp only [readsOk]
  cases bit pre i <;> simp
theorem writesOk_nil (pre : Nat) (n : Id) (f : Fr AV) (op : COp) (v : AV) : writesOk pre n f op v [] = true := nd rfl
theorem writesOk_P (pre : Nat) (n : Id) (f : Fr AV) (op : COp) (v : AV) (i : Nat) (h : Tab AO) (l : List Wr) : (writesOk pre n f op v (⟨i, h⟩ :: l) = true) = ((if bit pre i = true then True else again h n f op v = true) ∧ writesOk pre n f op v l = true) := by
  simp only [writesOk]
  cases bit pre i <;> simp
theorem allPre_nil (pre : Nat) : allPre pre [] = true := nd rfl
theorem allPre_P (pre i : Nat) (l : List Nat) : (allPre pre (i :: l) = true) = (bit pre i = true ∧ allPre pre l = true) := by simp [allPre]
theorem like_self' (v : AV) : like v v = true := (like_self (SizeOf.sizeOf v)).1 v (Nat.le_refl _)
theorem keepP_nil (pre : Nat) (y : Bool) : keepP pre y [] = [] := nd rfl
theorem keepP_cons (pre : Nat) (y : Bool) (i : Nat) (b : Id) (o : AO) (l : List Pd) : keepP pre y (⟨i, b, o⟩ :: l) = if bit pre i = y then ⟨i, b, o⟩ :: keepP pre y l else keepP pre y l := nd rfl
theorem flushS_nil (s : St) : flushS [] s = s := nd rfl
theorem flushS_cons (i : Nat) (b : Id) (o : AO) (l : List Pd) (s : St) : flushS (⟨i, b, o⟩ :: l) s = flushS l (s.put b o) := nd rfl
noncomputable def al (b : Id) (o : AO) : St := (St.mk (.rep .dead) b).push o
theorem al_obj (b : Id) (o : AO) : (al b o).obj b = o := push_self (.mk (.rep .dead) b) o
section
variable {b : Id}
theorem al_new (z : List AV) : vnew z (.mk (.rep .dead) b) = .ok (.ptr b 0) (al b (.cells z)) := by
  show (St.mk (.rep .dead) b).alloc (.cells z) (fun b s => .ok (.ptr b 0) s) = _
  rw [alloc_push]; rfl
theorem al_box (cs : List AV) : vbox (.agg cs) (.mk (.rep .dead) b) = .ok (.ptr b 0) (al b (.cells cs)) := by
  show (St.mk (.rep .dead) b).alloc (.cells cs) (fun b s => .ok (.ptr b 0) s) = _
  rw [alloc_push]; rfl
theorem al_blit (len : Nat) (cs : List AV) : vblit len cs (.mk (.rep .dead) b) = .ok (.sl b 0 len len 0) (al b (.cells cs)) := by
  show (St.mk (.rep .dead) b).alloc (.cells cs) (fun b s => .ok (.sl b 0 len len 0) s) = _
  rw [alloc_push]; rfl
end
theorem ext_nil (s : St) : Ext s (Sx s []) := Ext.refl s
theorem ext_self (s : St) : Ext s s := Ext.refl s
attribute [go_sem] onPe_ok onPe_no ext_nil ext_self eq_self
attribute [go_sem] Wd_nil Wd_q Wd_qm Wd_qn Wd_qg Wd_r Wd_rg Wd_a Wd_ag Wd_m Wd_mn Wd_mg bit_def again_P readsOk_nil readsOk_P writesOk_nil writesOk_P allPre_nil allPre_P like_self' keepP_nil keepP_cons flushS_nil flushS_cons al_obj al_new al_box al_blit St.eta' List.map_cons List.map_nil List.replicate_succ List.replicate_zero
end Go.Vm
namespace Go.Vm
set_option linter.unusedVariables false
variable {P : Program}
noncomputable def vapp (sz bytes : Nat) (x y : AV) (s : St) : R :=
  srcOf s sz y fun n new =>
  x.onSl .no
    (br (Nat.beq n 0) (.ok .nils s) (grown s sz bytes n new))
    (fun b o len cap ex => (s.obj b).onCells .no fun cs => br (Nat.ble (Nat.add o (Nat.mul cap sz)) (ln cs))
      (br (Nat.ble (Nat.add len n) cap) (.ok (.sl b o (Nat.add len n) cap ex) (s.put b (.cells (splice (Nat.add o (Nat.mul len sz)) new cs))))
        (br (Nat.beq ex 0) (grown s sz bytes (Nat.add len n) (apd (tk (Nat.mul len sz) (dr o cs)) new))
          (br (Nat.beq ex sz) (grown (s.put b .dead) sz bytes (Nat.add len n) (apd (tk (Nat.mul len sz) (dr o cs)) new)) .no))) .no)
    fun cs len cap ex => br (Nat.beq n 0) (.ok x s)
      (br ex (br (Nat.ble (Nat.succ cap) (Nat.add len n)) (br (Nat.beq (ln cs) (Nat.mul len sz)) (grown s sz bytes (Nat.add len n) (apd cs new)) .no) .no) .no)
theorem p_app (call : CallT) (f : Fr AV) (s : St) (sz bytes : Nat) (x y : CO) : exop (.app sz bytes x y) call f s = vapp sz bytes (ev1 f x) (ev1 f y) s := nd rfl
theorem ble_t {a b : Nat} (h : a ≤ b) : Nat.ble a b = true := by rw [Nat.ble_eq]; exact h
theorem ble_f {a b : Nat} (h : b < a) : Nat.ble a b = false := by rw [← Bool.not_eq_true, Nat.ble_eq]; omega
theorem beq_t (a : Nat) : Nat.beq a a = true := Nat.beq_refl a
theorem beq_f {a b : Nat} (h : a ≠ b) : Nat.beq a b = false := by cases hb : Nat.beq a b with | false => rfl | true => exact absurd (Nat.eq_of_beq_eq_true hb) h
theorem srcOf_sl {s : St} {sz : Nat} {y : AV} (hy : IsSl s y) (hrow : lenOf y * sz ≤ (rowOf s y).length) (k : Nat → List AV → R) : srcOf s sz y k = k (lenOf y) ((rowOf s y).take (lenOf y * sz)) := by
  cases hy with
  | nils => show k 0 [] = k 0 (List.take (0 * sz) []); simp
  | ts cs len cap ex hm ho =>
    show br (Nat.ble (Nat.mul len sz) (ln cs)) (k len (tk (Nat.mul len sz) cs)) .no = k len (cs.take (len * sz))
    have h : len * sz ≤ cs.length := hrow
    rw [ln_eq, tk_eq, show Nat.mul len sz = len * sz from rfl, ble_t h]; rfl
  | sl b o len cap ex cs hm h hb hoo =>
    have hrow' : len * sz ≤ ((s.obj b).row.drop o).length := hrow
    show (s.obj b).onCells R.no (fun cs => br (Nat.ble (Nat.add o (Nat.mul len sz)) (ln cs)) (k len (tk (Nat.mul len sz) (dr o cs))) .no) = k len (((s.obj b).row.drop o).take (len * sz))
    rw [h] at hrow' ⊢
    have h1 : len * sz ≤ (cs.drop o).length := hrow'
    rw [List.length_drop] at h1
    show br (Nat.ble (o + len * sz) (ln cs)) (k len (tk (len * sz) (dr o cs))) .no = k len ((cs.drop o).take (len * sz))
    rw [ln_eq, tk_eq, dr_eq, ble_t (by omega)]; rfl
section
variable {s : St} {L : List AO} (hr : Room s) (hl : L.length ≤ 5000)
include hr hl
theorem grown_Sx (sz bytes m : Nat) (cs : List AV) (h1 : m * bytes ≤ limit) (h2 : m ≤ limit) : grown (Sx s L) sz bytes m cs = .ok (.sl (nm s L.length) 0 m m sz) (Sx s (L ++ [.cells cs])) := by
  show br (Nat.ble (m * bytes) limit) (br (Nat.ble m limit) ((Sx s L).alloc (.cells cs) fun b s => .ok (.sl b 0 m m sz) s) .no) .no = _
  rw [ble_t h1, ble_t h2, Sx_alloc hr hl]; rfl
/-- To nothing. -/
theorem vapp_nils {sz bytes : Nat} {y : AV} (hy : IsSl (Sx s L) y) (hrow : lenOf y * sz ≤ (rowOf (Sx s L) y).length) (hb : lenOf y * bytes ≤ limit) (h0 : lenOf y ≠ 0) :
    vapp sz bytes .nils y (Sx s L) = .ok (.sl (nm s L.length) 0 (lenOf y) (lenOf y) sz) (Sx s (L ++ [.cells ((rowOf (Sx s L) y).take (lenOf y * sz))])) := by
  unfold vapp
  rw [srcOf_sl hy hrow]
  show br (Nat.beq (lenOf y) 0) (R.ok .nils _) (grown _ sz bytes _ _) = _
  rw [beq_f h0, br_false', grown_Sx hr hl _ _ _ _ hb hy.most]
omit hr hl in
theorem vapp_nils0 {sz bytes : Nat} {y : AV} (hy : IsSl (Sx s L) y) (hrow : lenOf y * sz ≤ (rowOf (Sx s L) y).length) (h0 : lenOf y = 0) :
    vapp sz bytes .nils y (Sx s L) = .ok .nils (Sx s L) := by
  unfold vapp
  rw [srcOf_sl hy hrow]
  show br (Nat.beq (lenOf y) 0) (R.ok .nils _) (grown _ sz bytes _ _) = _
  rw [h0]; rfl
/-- To an empty literal. -/
theorem vapp_lit {sz bytes i : Nat} {y : AV} (hi : L[i]? = some (.cells [])) (hy : IsSl (Sx s L) y) (hrow : lenOf y * sz ≤ (rowOf (Sx s L) y).length) (hb : lenOf y * bytes ≤ limit) (h0 : lenOf y ≠ 0) :
    vapp sz bytes (.sl (nm s i) 0 0 0 0) y (Sx s L) = .ok (.sl (nm s L.length) 0 (lenOf y) (lenOf y) sz) (Sx s (L ++ [.cells ((rowOf (Sx s L) y).take (lenOf y * sz))])) := by
  unfold vapp
  rw [srcOf_sl hy hrow]
  show ((Sx s L).obj (nm s i)).onCells R.no _ = _
  rw [Sx_obj? hr hl hi]
  show br (Nat.ble (0 + 0 * sz) (ln ([] : List AV))) (br (Nat.ble (0 + lenOf y) 0) _ (br true (grown _ sz bytes (0 + lenOf y) (apd (tk (0 * sz) (dr 0 [])) _)) _)) .no = _
  rw [ble_t (by simp [ln_eq]), ble_f (by omega), br_true', br_false', br_true', tk_eq, dr_eq, apd_eq, Nat.zero_add, Nat.zero_mul]
  show grown (Sx s L) sz bytes (lenOf y) ([] ++ _) = _
  rw [List.nil_append, grown_Sx hr hl _ _ _ _ hb hy.most]
theorem vapp_lit0 {sz bytes i : Nat} {y : AV} (hi : L[i]? = some (.cells [])) (hy : IsSl (Sx s L) y) (hrow : lenOf y * sz ≤ (rowOf (Sx s L) y).length) (h0 : lenOf y = 0) :
    vapp sz bytes (.sl (nm s i) 0 0 0 0) y (Sx s L) = .ok (.sl (nm s i) 0 0 0 0) (Sx s L) := by
  have hlt := (List.getElem?_eq_some_iff.mp hi).1
  unfold vapp
  rw [srcOf_sl hy hrow]
  show ((Sx s L).obj (nm s i)).onCells R.no _ = _
  rw [Sx_obj? hr hl hi]
  show br (Nat.ble (0 + 0 * sz) (ln ([] : List AV))) (br (Nat.ble (0 + lenOf y) 0) (R.ok (.sl (nm s i) 0 (0 + lenOf y) 0 0) ((Sx s L).put (nm s i) (.cells (splice (0 + 0 * sz) _ [])))) _) .no = _
  rw [ble_t (by simp [ln_eq]), h0, Nat.zero_mul, List.take_zero, Sx_put hr hl hlt]
  show R.ok (.sl (nm s i) 0 0 0 0) (Sx s (L.set i (.cells []))) = _
  rw [show L.set i (.cells []) = L by
    apply List.ext_getElem?
    intro j
    by_cases e : i = j
    · subst e; rw [List.getElem?_set_self hlt, hi]
    · rw [List.getElem?_set_ne e]]
/-- To what has grown. -/
theorem vapp_grow {sz bytes i len : Nat} {y : AV} {cs : List AV} (hi : L[i]? = some (.cells cs)) (hc : cs.length = len * sz) (hsz : sz ≠ 0) (hy : IsSl (Sx s L) y) (hrow : lenOf y * sz ≤ (rowOf (Sx s L) y).length) (hb : (len + lenOf y) * bytes ≤ limit) (hm : len + lenOf y ≤ limit) (h0 : lenOf y ≠ 0) :
    vapp sz bytes (.sl (nm s i) 0 len len sz) y (Sx s L) = .ok (.sl (nm s L.length) 0 (len + lenOf y) (len + lenOf y) sz) (Sx s (L.set i .dead ++ [.cells (cs ++ (rowOf (Sx s L) y).take (lenOf y * sz))])) := by
  have hlt := (List.getElem?_eq_some_iff.mp hi).1
  unfold vapp
  rw [srcOf_sl hy hrow]
  show ((Sx s L).obj (nm s i)).onCells R.no _ = _
  rw [Sx_obj? hr hl hi]
  show br (Nat.ble (0 + len * sz) (ln cs)) (br (Nat.ble (len + lenOf y) len) _ (br (Nat.beq sz 0) _ (br (Nat.beq sz sz) (grown ((Sx s L).put (nm s i) .dead) sz bytes (len + lenOf y) (apd (tk (len * sz) (dr 0 cs)) _)) .no))) .no = _
  rw [ln_eq, ble_t (by omega), ble_f (by omega), beq_f hsz, beq_t, br_true', br_false', br_false', br_true', tk_eq, dr_eq, apd_eq, List.drop_zero, ← hc, List.take_length, Sx_put hr hl hlt, grown_Sx hr (by rw [List.length_set]; exact hl) _ _ _ _ hb hm, List.length_set]
/-- What is a function's own, given away. -/
theorem fz_own {i o len cap ex : Nat} {cs : List AV} (hi : L[i]? = some (.cells cs)) (hc : ∀ c ∈ cs, Ov s.n.val c) : Fz s.n.val (Sx s L) (.sl (nm s i) o len cap ex) (.ts (cs.drop o) len len false) := by
  have hlt := (List.getElem?_eq_some_iff.mp hi).1
  refine .slN (nm s i) o len cap ex cs (cs.drop o) (by rw [nm_val hr (by omega)]; omega) (Sx_obj? hr hl hi) rfl (fun j c d h1 h2 => ?_)
  rw [h1] at h2; cases h2
  exact hc c (List.mem_of_mem_drop (List.mem_of_getElem? h1)) _
end
/-! ### Against nil -/
noncomputable def vnileq (neg : Bool) (k : NK) (a b : AV) (s : St) : R :=
  NK.rec (motive := fun _ => R) (nilNeq neg .sl a b s) (nilNeq neg .ptr a b s) (nilNeq neg .map a b s) (nilNeq neg .fn a b s) (nilNeq neg .ifc a b s) (fun c => aggNeq neg c a b s) k
theorem p_nileq (call : CallT) (f : Fr AV) (s : St) (neg : Bool) (k : NK) (x y : CO) : exop (.nileq neg k x y) call f s = vnileq neg k (ev1 f x) (ev1 f y) s := nd rfl
theorem vnileq_nil (s : St) : vnileq false .sl .nils .nils s = .ok (.bool true) s := nd rfl
theorem vnileq_sl {t : St} {v : AV} (h : IsSl t v) (hn : v ≠ .nils) (s : St) : vnileq false .sl v .nils s = .ok (.bool false) s := by
  cases h with
  | nils => exact absurd rfl hn
  | ts => rfl
  | sl => rfl
/-! ### Rows of what one gives away -/
theorem fzl_nil (n : Nat) (s : St) : ∀ (j : Nat) (c d : AV), ([] : List AV)[j]? = some c → ([] : List AV)[j]? = some d → Fz n s c d := fun j c d h => by simp at h
theorem fzl_cons {n : Nat} {s : St} {a b : AV} {l m : List AV} (h : Fz n s a b) (k : ∀ (j : Nat) (c d : AV), l[j]? = some c → m[j]? = some d → Fz n s c d) : ∀ (j : Nat) (c d : AV), (a :: l)[j]? = some c → (b :: m)[j]? = some d → Fz n s c d := by
  intro j c d hc hd
  cases j with
  | zero => simp at hc hd; subst hc; subst hd; exact h
  | succ j => exact k j c d (by simpa using hc) (by simpa using hd)
theorem fz_agg2 {n : Nat} {s : St} {a b c d : AV} (h1 : Fz n s a c) (h2 : Fz n s b d) : Fz n s (.agg [a, b]) (.agg [c, d]) := .agg _ _ rfl (fzl_cons h1 (fzl_cons h2 (fzl_nil n s)))
theorem fz_tup2 {n : Nat} {s : St} {a b c d : AV} (h1 : Fz n s a c) (h2 : Fz n s b d) : Fz n s (.tup [a, b]) (.tup [c, d]) := .tup _ _ rfl (fzl_cons h1 (fzl_cons h2 (fzl_nil n s)))
theorem fz_agg1 {n : Nat} {s : St} {a c : AV} (h1 : Fz n s a c) : Fz n s (.agg [a]) (.agg [c]) := .agg _ _ rfl (fzl_cons h1 (fzl_nil n s))
theorem fz_agg6 {n : Nat} {s : St} {a b c d e g a' b' c' d' e' g' : AV} (h1 : Fz n s a a') (h2 : Fz n s b b') (h3 : Fz n s c c') (h4 : Fz n s d d') (h5 : Fz n s e e') (h6 : Fz n s g g') : Fz n s (.agg [a, b, c, d, e, g]) (.agg [a', b', c', d', e', g']) :=
  .agg _ _ rfl (fzl_cons h1 (fzl_cons h2 (fzl_cons h3 (fzl_cons h4 (fzl_cons h5 (fzl_cons h6 (fzl_nil n s)))))))
attribute [go_sem] p_app p_nileq vnileq_nil
end Go.Vm
namespace Go.Vm
set_option linter.unusedVariables false
/-- Where a byte is in a text first. -/
noncomputable def strings_IndexByte_B : List AV → St → R
  | [.str l, .int .u8 c], s => .ok (.int .i64 (Lib.indexByte l c.toNat.toUInt8)) s
  | _, _ => .no
noncomputable def vcallv (call : CallT) (g : AV) (l : List AV) (s : St) : R := g.onFn .no fun g a b => call g (apd a (apd l b)) s
theorem p_callv (call : CallT) (f : Fr AV) (s : St) (g : CO) (as : List CO) : exop (.callv g as) call f s = vcallv call (ev1 f g) (evs f as) s := nd rfl
theorem vcallv_fn (call : CallT) (g : Id) (l : List AV) (s : St) : vcallv call (.fn g [] []) l s = call g l s := by
  show call g (apd [] (apd l [])) s = _
  rw [apd_eq, apd_eq, List.nil_append, List.append_nil]
noncomputable def vsshi (a h : AV) (s : St) : R := a.onStr .no fun l => h.idx (l.length + 1) fun h => .ok (.str (l.take h)) s
theorem p_sshi (call : CallT) (f : Fr AV) (s : St) (x h : CO) : exop (.sslice x none (some h)) call f s = vsshi (ev1 f x) (ev1 f h) s := by
  show (ev1 f x).onStr R.no (fun l => bnd (some (ev1 f h)) (ln l) (ln l) fun h => bnd none h 0 fun lo => .ok (.str (dr lo (tk h l))) s) = _
  simp only [ln_eq, dr_eq, tk_eq]; rfl
theorem vsshi_eq {j : IntKind} {l : List UInt8} {i : Int} (h0 : 0 ≤ i) (h1 : i ≤ l.length) (s : St) : vsshi (.str l) (.int j i) s = .ok (.str (l.take i.toNat)) s := idx_eq (j := j) h0 (by omega) fun h => .ok (.str (l.take h)) s
theorem vsidx_n {l : List UInt8} {i : Nat} (h : i < l.length) (j : IntKind) (s : St) : vsidx (.str l) (.int j (i : Int)) s = .ok (.int .u8 ((l[i]).toNat : Int)) s := by
  rw [vsidx_eq s (j := j) (l := l) (i := (i : Int)) (by omega) (by omega)]; simp
theorem vsidx_0 {l : List UInt8} (h : 0 < l.length) (j : IntKind) (s : St) : vsidx (.str l) (.int j 0) s = .ok (.int .u8 ((l[0]).toNat : Int)) s := vsidx_n h j s
attribute [go_sem] p_callv vcallv_fn p_sshi
end Go.Vm
namespace Go.Vm
set_option linter.unusedVariables false
theorem nm_put (s : St) (b : Id) (o : AO) (k : Nat) : nm (s.put b o) k = nm s k := by unfold nm; rw [put_n]
theorem Room.put {s : St} (h : Room s) {b : Id} (hb : b.val < s.n.val) (o : AO) : Room (s.put b o) := ⟨by rw [put_n]; exact h.n, fun c hc => by rw [put_n] at hc; rw [put_ne (by omega)]; exact h.clean c hc⟩
theorem Sx_putO {s : St} {L : List AO} (hr : Room s) (hl : L.length ≤ 5000) {b : Id} (hb : b.val < s.n.val) (o : AO) : (Sx s L).put b o = Sx (s.put b o) L := by
  have hr2 := hr.put hb o
  have hR := hr.n
  refine St.ext' (by rw [put_n, Sx_n' hr hl, Sx_n' hr2 hl, nm_put]) (fun c => ?_)
  rw [St.obj_put]
  show (if c = b then o else (L.foldl St.push s).obj c) = (L.foldl St.push (s.put b o)).obj c
  rw [foldl_obj L s, foldl_obj L (s.put b o), put_n]
  by_cases h : c = b
  · subst h; rw [if_pos rfl, if_pos hb, put_self]
  · have hv : c.val ≠ b.val := fun e => h (Id.val_inj e)
    rw [if_neg h, put_ne hv]
theorem Ext.putO {s s1 : St} (h : Ext s s1) {b : Id} (hb : s.n.val ≤ b.val) (o : AO) : Ext s (s1.put b o) := h.put hb o
theorem vapp_growO {s : St} {L : List AO} (hr : Room s) (hl : L.length ≤ 5000) {sz bytes len : Nat} {b : Id} {y : AV} {cs : List AV} (hb : b.val < s.n.val) (hi : s.obj b = .cells cs) (hc : cs.length = len * sz) (hsz : sz ≠ 0) (hy : IsSl (Sx s L) y) (hrow : lenOf y * sz ≤ (rowOf (Sx s L) y).length) (hby : (len + lenOf y) * bytes ≤ limit) (hm : len + lenOf y ≤ limit) (h0 : lenOf y ≠ 0) :
    vapp sz bytes (.sl b 0 len len sz) y (Sx s L) = .ok (.sl (nm s L.length) 0 (len + lenOf y) (len + lenOf y) sz) (Sx (s.put b .dead) (L ++ [.cells (cs ++ (rowOf (Sx s L) y).take (lenOf y * sz))])) := by
  unfold vapp
  rw [srcOf_sl hy hrow]
  show ((Sx s L).obj b).onCells R.no _ = _
  rw [Sx_old hr hl hb, hi]
  show br (Nat.ble (0 + len * sz) (ln cs)) (br (Nat.ble (len + lenOf y) len) _ (br (Nat.beq sz 0) _ (br (Nat.beq sz sz) (grown ((Sx s L).put b .dead) sz bytes (len + lenOf y) (apd (tk (len * sz) (dr 0 cs)) _)) .no))) .no = _
  rw [ln_eq, ble_t (by omega), ble_f (by omega), beq_f hsz, beq_t, br_true', br_false', br_false', br_true', tk_eq, dr_eq, apd_eq, List.drop_zero, ← hc, List.take_length, Sx_putO hr hl hb, grown_Sx (hr.put hb _) hl _ _ _ _ hby hm, nm_put]
theorem isl_lit {s : St} {L : List AO} (hr : Room s) (hl : L.length ≤ 5000) {i n : Nat} {cs : List AV} (hi : L[i]? = some (.cells cs)) (hn : n ≤ limit) (cap ex : Nat) : IsSl (Sx s L) (.sl (nm s i) 0 n cap ex) ∧ rowOf (Sx s L) (.sl (nm s i) 0 n cap ex) = cs ∧ lenOf (.sl (nm s i) 0 n cap ex) = n := by
  have hlt := (List.getElem?_eq_some_iff.mp hi).1
  refine ⟨.sl _ _ _ _ _ cs hn (Sx_obj? hr hl hi) (by rw [nm_val hr (by omega), Sx_n hr hl]; omega) (by omega), ?_, rfl⟩
  show ((Sx s L).obj (nm s i)).row.drop 0 = cs
  rw [Sx_obj? hr hl hi]; rfl
/-- One more, to what has grown; to nothing. -/
theorem vapp_one {s : St} {L : List AO} (hr : Room s) (hl : L.length ≤ 5000) {bytes len i : Nat} {b : Id} {a : AV} {cs : List AV} (hb : b.val < s.n.val) (hi : s.obj b = .cells cs) (hc : cs.length = len) (hL : L[i]? = some (.cells [a])) (hby : (len + 1) * bytes ≤ limit) (hm : len + 1 ≤ limit) :
    vapp 1 bytes (.sl b 0 len len 1) (.sl (nm s i) 0 1 1 0) (Sx s L) = .ok (.sl (nm s L.length) 0 (len + 1) (len + 1) 1) (Sx (s.put b .dead) (L ++ [.cells (cs ++ [a])])) := by
  obtain ⟨h1, h2, h3⟩ := isl_lit hr hl hL (n := 1) (by unfold limit; omega) 1 0
  rw [vapp_growO hr hl hb hi (by omega) (by omega) h1 (by rw [h2, h3]; simp) (by rw [h3]; exact hby) (by rw [h3]; exact hm) (by rw [h3]; omega), h2, h3]; rfl
theorem vapp_one0 {s : St} {L : List AO} (hr : Room s) (hl : L.length ≤ 5000) {bytes i : Nat} {a : AV} (hL : L[i]? = some (.cells [a])) (hby : bytes ≤ limit) :
    vapp 1 bytes .nils (.sl (nm s i) 0 1 1 0) (Sx s L) = .ok (.sl (nm s L.length) 0 1 1 1) (Sx s (L ++ [.cells [a]])) := by
  obtain ⟨h1, h2, h3⟩ := isl_lit hr hl hL (n := 1) (by unfold limit; omega) 1 0
  rw [vapp_nils hr hl h1 (by rw [h2, h3]; simp) (by rw [h3]; omega) (by rw [h3]; omega), h2, h3]; rfl
theorem room_put {s : St} {b : Id} {o : AO} (h : Room s) (hb : b.val < s.n.val) : Room (s.put b o) := h.put hb o
attribute [go_sem] room_put put_n
attribute [go_sem] nm_put put_self Sx_putO Sx_old
end Go.Vm
namespace Go.Vm
set_option linter.unusedVariables false
noncomputable def vmksl (bytes : Nat) (z : List AV) (l c : AV) (s : St) : R := l.idx limit fun l => c.idx limit fun c => br (Nat.ble l c) (br (Nat.ble (c * bytes) limit) (s.alloc (.cells (reps c z)) fun b s => .ok (.sl b 0 l c 0) s) .no) .no
theorem p_mksl (call : CallT) (f : Fr AV) (s : St) (bytes : Nat) (z : List AV) (l c : CO) : exop (.mksl bytes z l c) call f s = vmksl bytes z (ev1 f l) (ev1 f c) s := nd rfl
theorem reps_rep {α : Type} (n : Nat) (a : α) : reps n [a] = List.replicate n a := by
  induction n with
  | zero => rfl
  | succ n ih => rw [reps_s, ih]; rfl
theorem vmksl_eq {s : St} {L : List AO} (hr : Room s) (hl : L.length ≤ 5000) {bytes : Nat} {j k : IntKind} {l c : Nat} {a : AV} (h1 : l ≤ c) (h2 : c * bytes ≤ limit) (h3 : c < limit) :
    vmksl bytes [a] (.int j (l : Int)) (.int k (c : Int)) (Sx s L) = .ok (.sl (nm s L.length) 0 l c 0) (Sx s (L ++ [.cells (List.replicate c a)])) := by
  unfold vmksl
  rw [idx_eq (by omega) (by omega), idx_eq (by omega) (by omega)]
  simp only [Int.toNat_natCast]
  rw [ble_t h1, ble_t h2, br_true', br_true', reps_rep, Sx_alloc hr hl]
noncomputable def vslhi (sz : Nat) (x h : AV) (s : St) : R := x.onSl .no
    (bnd none 0 0 fun m => bnd (some h) m 0 fun h => bnd none h 0 fun _ => .ok .nils s)
    (fun b o len cap ex => bnd none cap cap fun m => bnd (some h) m len fun h => bnd none h 0 fun l =>
      br (br (Nat.beq ex 0) true (br false true (Nat.ble (Nat.succ l) cap)))
        (br (br (Nat.beq ex 0) true (br false true (Nat.beq ex sz))) (.ok (.sl b (br (Nat.beq m l) o (Nat.add o (Nat.mul l sz))) (Nat.sub h l) (Nat.sub m l) (br false 0 ex)) s) .no)
        (.ok (.ts [] 0 0 false) s))
    fun cs len cap ex => bnd none cap cap fun m => bnd (some h) (Nat.min m len) len fun h => bnd none h 0 fun l =>
      .ok (.ts (dr (Nat.mul l sz) (tk (Nat.mul h sz) cs)) (Nat.sub h l) (Nat.sub m l) (br ex true false)) s
theorem p_slhi (call : CallT) (f : Fr AV) (s : St) (sz : Nat) (x h : CO) : exop (.slice sz x none (some h) none) call f s = vslhi sz (ev1 f x) (ev1 f h) s := nd rfl
theorem vslhi_eq {sz : Nat} {j : IntKind} {b : Id} {len cap h : Nat} (hh : h ≤ cap) (s : St) : vslhi sz (.sl b 0 len cap 0) (.int j (h : Int)) s = .ok (.sl b 0 h cap 0) s := by
  show (AV.int j (h : Int)).idx (cap + 1) (fun h => R.ok (.sl b (br (Nat.beq cap 0) 0 (Nat.add 0 (Nat.mul 0 sz))) (Nat.sub h 0) (Nat.sub cap 0) 0) s) = _
  rw [idx_eq (by omega) (by omega)]
  simp only [Int.toNat_natCast]
  have e : br (Nat.beq cap 0) 0 (Nat.add 0 (Nat.mul 0 sz)) = 0 := by
    have : Nat.add 0 (Nat.mul 0 sz) = 0 := by show 0 + 0 * sz = 0; omega
    rw [this]; cases Nat.beq cap 0 <;> rfl
  rw [e]; rfl
theorem vlen_sl (b : Id) (o len cap ex : Nat) (s : St) : vlen (.sl b o len cap ex) s = .ok (.int .i64 (len : Int)) s := nd rfl
theorem viaddr_sl {k : IntKind} {b : Id} {o len cap ex i : Nat} (h : i < len) (s : St) : viaddr 1 (.sl b o len cap ex) (.int k (i : Int)) s = .ok (.ptr b (o + i)) s := by
  show (AV.int k (i : Int)).idx len (fun m => R.ok (.ptr b (o + m * 1)) s) = _
  rw [idx_eq (by omega) (by omega)]; simp
theorem wrap1_at {cs : List AV} {i : Nat} {a : AV} (h : cs[i]? = some a) (s : St) : wrap1 false 1 (cs.drop i) s = .ok a s := by
  obtain ⟨h1, h2⟩ := List.getElem?_eq_some_iff.mp h
  rw [List.drop_eq_getElem_cons h1, h2, wrap1_one]
theorem vstore_el {s : St} {b : Id} {i : Nat} {a : AV} {cs : List AV} (ho : s.obj b = .cells cs) (ha : a.one = true) (h2 : i < cs.length) :
    vstore 1 (.ptr b i) a s = .ok undef (s.put b (.cells (cs.set i a))) := by
  show vcells (s.obj b) _ = _
  rw [ho, vcells_cells]
  have key : ∀ k : List AV → R, a.lay k = k [a] := fun k => by cases a <;> first | rfl | cases ha
  rw [key]
  show br (Nat.ble (i + 1) cs.length) (R.ok undef (s.put b (.cells (splice i [a] cs)))) .no = _
  rw [show Nat.ble (i + 1) cs.length = true by rw [Nat.ble_eq]; omega, splice_one]; rfl
/-- A call without arguments that comes to true. -/
noncomputable def true_B : List AV → St → R
  | [], s => .ok (.bool true) s
  | _, _ => .no
attribute [go_sem] p_mksl p_slhi vlen_sl
end Go.Vm
namespace Go.Vm
set_option linter.unusedVariables false
noncomputable def vlookup (str : Bool) (z x k : AV) (ok : Bool) (s : St) : R := isKey str k (x.onMap .no (looked ok false z s) fun b => (s.obj b).onMap .no fun es => mget es k (looked ok false z s) fun v => looked ok true v s)
theorem p_lookup (call : CallT) (f : Fr AV) (s : St) (str : Bool) (z : AV) (x k : CO) (ok : Bool) : exop (.lookup str z x k ok) call f s = vlookup str z (ev1 f x) (ev1 f k) ok s := nd rfl
noncomputable def vmupd (str : Bool) (x k v : AV) (s : St) : R := isKey str k (x.onMap .no .no fun b => (s.obj b).onMap .no fun es => mput es k v fun es => .ok undef (s.put b (.map es)))
theorem p_mupd (call : CallT) (f : Fr AV) (s : St) (str : Bool) (x k v : CO) : exop (.mupd str x k v) call f s = vmupd str (ev1 f x) (ev1 f k) (ev1 f v) s := nd rfl
/-- Entries by texts. -/
def entG (l : List (List UInt8 × AV)) : List (AV × AV) := l.map fun p => (.str p.1, p.2)
theorem keyEq_str (p q : List UInt8) (d y n : R) : keyEq (.str p) (.str q) d y n = if p = q then y else n := by
  show br (beqs p q) y n = _
  rw [beqs_eq]
  by_cases h : p = q
  · rw [if_pos h, show (p == q) = true by simp [h]]; rfl
  · rw [if_neg h, show (p == q) = false by simp [h]]; rfl
theorem mget_ent (l : List (List UInt8 × AV)) (k : List UInt8) (z : R) (yes : AV → R) : mget (entG l) (.str k) z yes = match l.find? (fun p => decide (k = p.1)) with | some p => yes p.2 | none => z := by
  induction l with
  | nil => rfl
  | cons p l ih =>
    show keyEq (.str k) (.str p.1) .no (yes p.2) (mget (entG l) (.str k) z yes) = _
    rw [keyEq_str, List.find?_cons]
    by_cases h : k = p.1
    · rw [if_pos h, decide_eq_true h]
    · rw [if_neg h, decide_eq_false h, ih]
theorem mput_ent (l : List (List UInt8 × AV)) (k : List UInt8) (v : AV) (h : ∀ p ∈ l, k ≠ p.1) : ∀ c : List (AV × AV) → R, mput (entG l) (.str k) v c = c (entG (l ++ [(k, v)])) := by
  induction l with
  | nil => intro c; rfl
  | cons p l ih =>
    intro c
    show keyEq (.str k) (.str p.1) .no (c ((.str k, v) :: entG l)) (mput (entG l) (.str k) v fun r => c ((.str p.1, p.2) :: r)) = _
    rw [keyEq_str, if_neg (h p List.mem_cons_self), ih fun q hq => h q (List.mem_cons_of_mem _ hq)]; rfl
theorem vlookup_eq {s : St} {b : Id} {l : List (List UInt8 × AV)} (h : s.obj b = .map (entG l)) (k : List UInt8) (z : AV) : vlookup true z (.map b) (.str k) true s = .ok (.tup [((l.find? fun p => decide (k = p.1)).map (·.2)).getD z, .bool (l.find? fun p => decide (k = p.1)).isSome]) s := by
  show (s.obj b).onMap R.no (fun es => mget es (.str k) (looked true false z s) fun v => looked true true v s) = _
  rw [h]
  show mget (entG l) (.str k) (looked true false z s) (fun v => looked true true v s) = _
  rw [mget_ent]
  cases l.find? (fun p => decide (k = p.1)) <;> rfl
theorem vmupd_eq {s : St} {b : Id} {l : List (List UInt8 × AV)} (h : s.obj b = .map (entG l)) (k : List UInt8) (v : AV) (hk : ∀ p ∈ l, k ≠ p.1) : vmupd true (.map b) (.str k) v s = .ok undef (s.put b (.map (entG (l ++ [(k, v)])))) := by
  show (s.obj b).onMap R.no (fun es => mput es (.str k) v fun es => .ok undef (s.put b (.map es))) = _
  rw [h]
  show mput (entG l) (.str k) v (fun es => R.ok undef (s.put b (.map es))) = _
  rw [mput_ent l k v hk]
/-! ### What is kept -/
/-- Rows stay. -/
structure Kp (s s' : St) : Prop where
  n : s.n.val ≤ s'.n.val
  old : ∀ (b : Id) (cs : List AV), b.val < s.n.val → s.obj b = .cells cs → s'.obj b = .cells cs
theorem Kp.refl (s : St) : Kp s s := ⟨Nat.le_refl _, fun _ _ _ h => h⟩
theorem Kp.trans {s s1 s2 : St} (h : Kp s s1) (k : Kp s1 s2) : Kp s s2 := ⟨Nat.le_trans h.n k.n, fun b cs hb ho => k.old b cs (Nat.lt_of_lt_of_le hb h.n) (h.old b cs hb ho)⟩
theorem Ext.kp {s s' : St} (h : Ext s s') : Kp s s' := ⟨h.n, fun b cs hb ho => by rw [h.old b hb]; exact ho⟩
theorem Kp.put {s s' : St} (h : Kp s s') {b : Id} {es : List (AV × AV)} (ho : s'.obj b = .map es) (o : AO) : Kp s (s'.put b o) := by
  refine ⟨by rw [put_n]; exact h.n, fun c cs hc hs => ?_⟩
  have h1 := h.old c cs hc hs
  have hne : c ≠ b := by intro e; rw [e, ho] at h1; cases h1
  rw [St.obj_put, if_neg hne]; exact h1
theorem IsSl.kp {s s' : St} {v : AV} (h : IsSl s v) (hk : Kp s s') : IsSl s' v := by
  cases h with
  | nils => exact .nils
  | ts cs len cap ex hm ho => exact .ts _ _ _ _ hm (fun c hc => (ho c hc).mono hk.n)
  | sl b o len cap ex cs hm h1 hb hoo => exact .sl b o len cap ex cs hm (hk.old b cs hb h1) (Nat.lt_of_lt_of_le hb hk.n) hoo
theorem rowOf_kp {s s' : St} {v : AV} (hk : Kp s s') (h : IsSl s v) : rowOf s' v = rowOf s v := by
  cases h with
  | nils => rfl
  | ts => rfl
  | sl b o len cap ex cs hm h1 hb hoo => show (s'.obj b).row.drop o = (s.obj b).row.drop o; rw [hk.old b cs hb h1, h1]
theorem settle_any (s : St) (b : Bool) (s0 : St) : ∃ s', ((s' = s ∧ Old s s0) ∨ s' = s0) ∧ Settled s (.bool b) s0 (.bool b) s' := by
  by_cases h : Old s s0
  · exact ⟨s, .inl ⟨rfl, h⟩, .inl ⟨h, .bool b, rfl⟩⟩
  · exact ⟨s0, .inr rfl, .inr ⟨.inl h, rfl, rfl⟩⟩
variable {P : Program}
theorem cc_ex {B : Base} {g : Id} {c : CF} {args : List AV} {b : Bool} {s : St} {Q : St → Prop} (hg : g.get (prog P) = c ∧ g.get B = noB) (h : WF (CC0 P B) c args s fun r0 s0 => r0 = .bool b ∧ Q s0) : ∃ s' s0, CC0 P B g args s = .ok (.bool b) s' ∧ Q s0 ∧ ((s' = s ∧ Old s s0) ∨ s' = s0) := by
  obtain ⟨N, hN⟩ := h
  cases he : evF (CC0 P B) N c args s with
  | no => rw [he] at hN; exact hN.elim
  | ok r0 s0 =>
    rw [he] at hN
    obtain ⟨rfl, hQ⟩ : r0 = .bool b ∧ Q s0 := hN
    obtain ⟨s', h1, h2⟩ := settle_any s b s0
    exact ⟨s', s0, cc_intro (by rw [hg.1]; exact he) h2 hg.2, hQ, h1⟩
attribute [go_sem] p_lookup p_mupd
end Go.Vm
namespace Go.Vm
set_option linter.unusedVariables false
theorem row_turned [Lay] {s : St} {E : Env} {w w' : World} {b : Id} {cs cs' : List AV} {us' : List Value} {c c' : Array Value} {e : TypeId} (rel : Rel s E w) (hb : s.obj b = .cells cs)
    (h0 : w.heap[(E.φ b).block]? = some (.cells c e (0, 0))) (h1 : w'.heap[(E.φ b).block]? = some (.cells c' e (0, 0))) (hcz : c'.size = c.size)
    (hoth : ∀ k, k < w.heap.size → k ≠ (E.φ b).block → w'.heap[k]? = w.heap[k]?) (hsz : w.heap.size ≤ w'.heap.size) (h2 : w'.os = w.os) (h3 : w'.tape = w.tape) (h4 : w'.output = w.output)
    (hrow : RL E w cs' us') (hone : ∀ a ∈ cs', a.one = true) (hat : ∀ (j : Nat) (u : Value), us'[j]? = some u → c'[(E.φ b).off + j]? = some u) : Went s E w (s.put b (.cells cs')) E w' := by
  have hr := rel.h
  have hne : s.obj b ≠ .dead := by rw [hb]; intro h; cases h
  have hs' : ∀ d, (s.put b (.cells cs')).obj d = if d = b then .cells cs' else s.obj d := fun d => St.obj_put s b d _
  have hshape : Shaped w w' := fun k c0 e0 fr0 hk => by
    by_cases hkb : k = (E.φ b).block
    · subst hkb
      rw [h0] at hk
      cases hk
      exact ⟨c', _, h1, hcz⟩
    · exact ⟨c0, fr0, by rw [hoth k (Array.getElem?_eq_some_iff.mp hk).1 hkb]; exact hk, rfl⟩
  have hle : Le E w E w' := ⟨fun _ h => h, fun _ _ => rfl, fun _ h => h, fun k hk => hoth k (hr.seen k hk) (fun he => hr.apart b hne (by rw [← he]; exact hk)), hshape⟩
  refine ⟨⟨fun d hd => rel.n d (by rw [put_n] at hd; exact hd), ?_, rel.laid.le hle⟩, by rw [put_n]; exact Nat.le_refl _, ?_⟩
  · refine rel_step hr hle b (hr.old b hne) (fun ds hds => ?_) (fun es hes => ?_) (fun d hd hdd => ?_) (hr.apart b hne) (fun _ h => h) hsz
    · rw [hs', if_pos rfl] at hds
      cases hds
      exact ⟨c', e, us', h1, hrow.mono hle, hat, hone⟩
    · rw [hs', if_pos rfl] at hes; cases hes
    · rw [hs', if_neg hd] at hdd
      refine ⟨by rw [hs', if_neg hd], hoth _ (hr.block_lt hdd) (fun he => hr.inj d b hdd hne hd he), fun he => hr.inj b d hne hdd (fun h => hd h.symm) he⟩
  · refine ⟨fun _ h => h, fun _ _ => rfl, fun _ h => .inl h, fun _ h => h, fun _ h => .inl h, h2, h3, h4, hsz, fun k hk hkb => hoth k hk (fun he => hkb b hne he.symm), hshape, fun d hd => ?_⟩
    by_cases hdb : d = b
    · subst hdb; exact .inl ⟨d, hne, rfl⟩
    · rw [hs', if_neg hdb] at hd; exact .inl ⟨d, hd, rfl⟩
end Go.Vm
namespace Go.Vm
set_option linter.unusedVariables false
variable {P : Program}
/-- All that a frame holds was there. -/
def OvF (n : Nat) (f : Fr AV) : Prop := ∀ t, t < 256 → Ov n ((vv t).get f)
theorem OvF.set {n : Nat} {f : Fr AV} (h : OvF n f) {k : Nat} {v : AV} (hv : Ov n v) : OvF n ((vv k).set v f) := by
  intro t ht
  rw [vv_gs]
  split
  · exact hv
  · exact h t ht
theorem OvF.mono {n m : Nat} (hm : n ≤ m) {f : Fr AV} (h : OvF n f) : OvF m f := fun t ht => (h t ht).mono hm
theorem OvF.rep (n : Nat) : OvF n (.rep undef) := by
  intro t ht
  have e : (vv t).get (.rep undef : Fr AV) = undef := Sl.get_rep _ _
  rw [e]
  exact ov_tup (by simp)
theorem frame0_3 (a b c : AV) : frame0 [a, b, c] = (vv 2).set c ((vv 1).set b ((vv 0).set a (.rep undef))) := nd rfl
theorem Runs.ofW [Lay] {call : CallT} (hsc : SoundCall P call) (hdr : DrawnOk P call) {nt : Nat} {c : Code} {c' : CC} (hc : cc P nt c = some c') {f : Fr AV} {s : St} {n : Fr AV → St → Prop} {e : Nat → Fr AV → St → Prop} {r : Fr AV → St → Prop} (h : W call c' n e r f s) : Runs P nt c f s fun rc => onC rc n e r := by
  obtain ⟨N, h⟩ := h
  exact (Runs.code hsc hdr N hc (onC_ne h)).mono fun rc hrc => by rw [hrc]; exact h
theorem Runs.cond [Lay] {nt : Nat} {c : Operand} {c' : CO} {x y : Code} (hc : cod c = some c') {f : Fr AV} {s : St} {t : Bool} {Z : RC → Prop} (hv : ev1 f c' = .bool t) (h : Runs P nt (if t = true then x else y) f s Z) : Runs P nt (.cond c x y) f s Z := by
  intro a E w rf rel
  have hr := cod_rv hc rf
  rw [hv] at hr
  exact wp_cond (rv_bool hr) (h a E w rf rel)
theorem Runs.seqN [Lay] {nt : Nat} {x y : Code} {f : Fr AV} {s : St} {K : Fr AV → St → Prop} {Z' : RC → Prop} (hx : Runs P nt x f s fun rc => onC rc K (fun _ _ _ => False) fun _ _ => False) (hy : ∀ f1 s1, K f1 s1 → Runs P nt y f1 s1 Z') : Runs P nt (.seq x y) f s Z' :=
  Runs.seq hx (fun f1 s1 h => hy f1 s1 h) fun rc h hn => by
    cases rc with
    | no => exact h.elim
    | nor f1 s1 => exact absurd rfl (hn f1 s1)
    | exit i f1 s1 => exact h.elim
    | ret f1 s1 => exact h.elim
/-- What was made is forgotten: the frame holds nothing of it. -/
theorem Runs.forget [Lay] {nt : Nat} {c : Code} {f : Fr AV} {s : St} {K : Fr AV → Prop} (h : Runs P nt c f s fun rc => onC rc (fun f1 s1 => Old s s1 ∧ OvF s.n.val f1 ∧ K f1) (fun _ _ _ => False) fun _ _ => False) : Runs P nt c f s fun rc => onC rc (fun f1 s1 => s1 = s ∧ K f1) (fun _ _ _ => False) fun _ _ => False := by
  intro a E w rf rel
  refine Code.wp_mono ?_ (h a E w rf rel)
  rintro e a' w' ⟨rc, hz, hp⟩
  cases rc with
  | no => exact hz.elim
  | exit i f1 s1 => exact hz.elim
  | ret f1 s1 => exact hz.elim
  | nor f1 s1 =>
  obtain ⟨hold, hov, hk⟩ := hz
  cases e with
  | normal =>
    obtain ⟨f', s', E', h1, h2, h3⟩ := hp
    cases h1
    have hv : RV E' w' (.tup ((List.range 256).map fun t => (Sl.ofNat t).get f1)) (.tuple ((List.range 256).map fun t => a'.tmps.getD t Go.undef).toArray) := by
      refine .tup _ _ (by simp) (fun j c u hc hu => ?_)
      simp only [List.getElem?_map, Option.map_eq_some_iff] at hc hu
      obtain ⟨t, ht, rfl⟩ := hc
      obtain ⟨t', ht', rfl⟩ := hu
      rw [ht] at ht'
      cases ht'
      exact h2.slot t (List.mem_range.mp (List.mem_of_getElem? ht))
    have hfz : Fz s.n.val s1 (.tup ((List.range 256).map fun t => (Sl.ofNat t).get f1)) (.tup ((List.range 256).map fun t => (Sl.ofNat t).get f1)) := by
      refine .tup _ _ rfl (fun j c d hc hd => ?_)
      rw [hc] at hd; cases hd
      simp only [List.getElem?_map, Option.map_eq_some_iff] at hc
      obtain ⟨t, ht, rfl⟩ := hc
      have ht2 := List.mem_range.mp (List.mem_of_getElem? ht)
      have e : (Sl.ofNat t).get f1 = (vv t).get f1 := by unfold vv; rw [Nat.mod_eq_of_lt ht2]
      rw [e]
      exact hov t ht2 s1
    obtain ⟨G, g1, g2⟩ := settled_went rel hv h3 (.inl ⟨hold, hfz, rfl⟩)
    refine ⟨.nor f1 s, ⟨rfl, hk⟩, f1, s, G, rfl, ⟨fun t ht => ?_, h2.size, h2.defers⟩, g2⟩
    cases g1 with | tup _ _ q1 q2 =>
    exact q2 t _ _ (by simp [List.getElem?_range ht]) (by simp [List.getElem?_range ht])
  | exit i => obtain ⟨f', s', E', h1, _⟩ := hp; cases h1
  | ret => obtain ⟨f', s', E', h1, _⟩ := hp; cases h1
  | _ => exact hp.elim
end Go.Vm
namespace Go.Vm
set_option linter.unusedVariables false
variable {P : Program}
section
variable [Lay]
/-- New blocks alone. -/
theorem went_below {s : St} {E : Env} {w w' : World} (rel : Rel s E w) (h : RowKit.Below w.heap.size w w') : Went s E w s E w' := by
  have hle : Le E w E w' := ⟨fun _ h => h, fun _ _ => rfl, fun _ h => h, fun k hk => h.block k (rel.h.seen k hk), .of_old h.block⟩
  exact ⟨⟨rel.n, rel_keep rel.h hle h.block h.size (fun k hk => .inl hk), rel.laid.le hle⟩, Nat.le_refl _, ⟨fun _ h => h, fun _ _ => rfl, fun _ h => .inl h, fun _ h => h, fun _ h => .inl h, h.os, h.tape, h.output, h.size, fun k hk _ => h.block k hk, .of_old h.block, fun b hb => .inl ⟨b, hb, rfl⟩⟩⟩
/-- A block that nobody asks of any more. -/
theorem row_killed {s : St} {E : Env} {w w' : World} {g : Id} (rel : Rel s E w) (hne : s.obj g ≠ .dead) (hoth : ∀ k, k < w.heap.size → k ≠ (E.φ g).block → w'.heap[k]? = w.heap[k]?) (hshape : Shaped w w') (hsz : w.heap.size ≤ w'.heap.size)
    (h2 : w'.os = w.os) (h3 : w'.tape = w.tape) (h4 : w'.output = w.output) : Went s E w (s.put g .dead) E w' := by
  have hr := rel.h
  have hs' : ∀ d, (s.put g .dead).obj d = if d = g then .dead else s.obj d := fun d => St.obj_put s g d _
  have hle : Le E w E w' := ⟨fun _ h => h, fun _ _ => rfl, fun _ h => h, fun k hk => hoth k (hr.seen k hk) (fun he => hr.apart g hne (by rw [← he]; exact hk)), hshape⟩
  refine ⟨⟨fun d hd => rel.n d (by rw [put_n] at hd; exact hd), ?_, rel.laid.le hle⟩, by rw [put_n]; exact Nat.le_refl _, ?_⟩
  · refine rel_step hr hle g (hr.old g hne) (fun ds hds => ?_) (fun es hes => ?_) (fun d hd hdd => ?_) (hr.apart g hne) (fun _ h => h) hsz
    · rw [hs', if_pos rfl] at hds; cases hds
    · rw [hs', if_pos rfl] at hes; cases hes
    · rw [hs', if_neg hd] at hdd
      refine ⟨by rw [hs', if_neg hd], hoth _ (hr.block_lt hdd) (fun he => hr.inj d g hdd hne hd he), fun he => hr.inj g d hne hdd (fun h => hd h.symm) he⟩
  · refine ⟨fun _ h => h, fun _ _ => rfl, fun _ h => .inl h, fun _ h => h, fun _ h => .inl h, h2, h3, h4, hsz, fun k hk hkb => hoth k hk (fun he => hkb g hne he.symm), hshape, fun d hd => ?_⟩
    rw [hs'] at hd
    split at hd
    · exact absurd rfl hd
    · exact .inl ⟨d, hd, rfl⟩
end
/-- One name more whose block is known. -/
abbrev Lay.more (L : Lay) (b : Id) (T : TypeId) (n : Nat) : Lay := ⟨L.tabs, (b, T, n) :: L.typed⟩
section
variable {L : Lay} {b : Id} {T : TypeId} {n : Nat} {s s' : St} {E E' : Env} {w w' : World}
theorem Laid.less (h : @Laid (L.more b T n) E w) : @Laid L E w := @Laid.mk L _ _ (@Laid.tabs (L.more b T n) _ _ h) fun c U m hm => @Laid.typed (L.more b T n) _ _ h c U m (List.mem_cons_of_mem _ hm)
theorem Laid.more (h : @Laid L E w) (ht : Typed E w b T n) : @Laid (L.more b T n) E w := @Laid.mk (L.more b T n) _ _ h.tabs fun c U m hm => by
  rcases List.mem_cons.1 hm with e | hm
  · cases e; exact ht
  · exact h.typed c U m hm
theorem Laid.at (h : @Laid (L.more b T n) E w) : Typed E w b T n := @Laid.typed (L.more b T n) _ _ h b T n List.mem_cons_self
theorem Rel.less (h : @Rel (L.more b T n) s E w) : @Rel L s E w := @Rel.mk L _ _ _ (@Rel.n (L.more b T n) _ _ _ h) (@Rel.h (L.more b T n) _ _ _ h) (Laid.less (@Rel.laid (L.more b T n) _ _ _ h))
theorem Rel.more (h : @Rel L s E w) (ht : Typed E w b T n) : @Rel (L.more b T n) s E w := @Rel.mk (L.more b T n) _ _ _ h.n h.h (Laid.more h.laid ht)
theorem Went.less (h : @Went (L.more b T n) s E w s' E' w') : @Went L s E w s' E' w' := @Went.mk L _ _ _ _ _ _ (Rel.less (@Went.rel (L.more b T n) _ _ _ _ _ _ h)) (@Went.le (L.more b T n) _ _ _ _ _ _ h) (@Went.ext (L.more b T n) _ _ _ _ _ _ h)
theorem Went.more (rel : @Rel (L.more b T n) s E w) (h : @Went L s E w s' E' w') : @Went (L.more b T n) s E w s' E' w' :=
  @Went.mk (L.more b T n) _ _ _ _ _ _ (@Rel.mk (L.more b T n) _ _ _ h.rel.n h.rel.h (@Laid.le (L.more b T n) _ _ _ _ (@Rel.laid (L.more b T n) _ _ _ rel) (h.ext.le (@Rel.h (L.more b T n) _ _ _ rel)))) h.le h.ext
theorem CodePost.less {nt : Nat} {rc : RC} {e : Exit} {a : Act} (h : @CodePost (L.more b T n) nt s E w rc e a w') : @CodePost L nt s E w rc e a w' := by
  cases e with
  | normal => obtain ⟨f', s', E', h1, h2, h3⟩ := h; exact ⟨f', s', E', h1, h2, Went.less h3⟩
  | exit i => obtain ⟨f', s', E', h1, h2, h3⟩ := h; exact ⟨f', s', E', h1, h2, Went.less h3⟩
  | ret => obtain ⟨f', s', E', h1, h2, h3⟩ := h; exact ⟨f', s', E', h1, h2, Went.less h3⟩
  | _ => exact h
/-- What is told stays told. -/
theorem SoundCall.more {call : CallT} (h : @SoundCall L P call) : @SoundCall (L.more b T n) P call := fun g args s r s' hr =>
  ⟨(h g args s r s' hr).1, fun E w vals rel hrl => Calls.mono ((h g args s r s' hr).2 E w vals (Rel.less rel) hrl) fun e w' ⟨E', v, h1, h2, h3⟩ => ⟨E', v, h1, h2, Went.more rel h3⟩⟩
theorem typed_new {E : Env} {w : World} {b : Id} {cs : Array Value} {T : TypeId} {v : Value} (hv : v = .pointer (some ⟨w.heap.size, 0, none⟩)) (h : RV E (w.alloc (.cells cs T)) (.ptr b 0) v) : Typed E (w.alloc (.cells cs T)) b T cs.size := by
  subst hv
  generalize hw : (Value.pointer (some ⟨w.heap.size, 0, none⟩)) = v at h
  cases h with
  | ptr _ _ hD =>
    injection hw with h1
    injection h1 with h1
    injection h1 with h2 h3
    refine ⟨hD, by omega, cs, (0, 0), ?_, rfl⟩
    rw [← h2]
    simp [World.alloc, -World.alloc_eq]
/-- A block of a known type is made: the rest with that known. -/
theorem Runs.made {call : CallT} (hsc : @SoundCall L P call) {nt id : Nat} {op : Oper} {d : Tmp} {y : Code} {l : List AV} {f : Fr AV} {s s1 : St} {Z : RC → Prop} (hT : op.op = .alloc T) (hd : op.dst = some d) (hg : op.guard = none) (hl : zeroAt P T = some l) (hdn : d < nt) (hd2 : d < 256)
    (hx : opAlloc l call f s = .ok (.ptr s.n 0) s1) (h : @Runs (L.more s.n T l.length) P nt y ((Sl.ofNat d).set (.ptr s.n 0) f) s1 Z) : @Runs L P nt (.seq (.region id #[op] false) y) f s Z := by
  intro a E w rf rel
  refine wp_seq (wp_region_list ?_)
  show wpList P #[op] _ [op] a w
  unfold wpList
  have hwant : Region.wanted op (yielded #[op] a.tmps) = true := by simp [Region.wanted, hg]
  refine wpList_step (fun K hK => ?_)
  rw [if_pos hwant]
  obtain ⟨i, zv, hi, hzv, _, hlen, hrow⟩ := zeroAt_ok hl
  obtain ⟨hn, hout⟩ := s_alloc (P := P) (o := op) (nt := nt) (a := a) hl hT rf rel.h (rel.n s.n (Nat.le_refl _)) hx
  obtain ⟨E', w', v, h1, h2, h3, h4⟩ := hout
  have hrun : (execOp a.eval op).run P w = .ok (.value (.pointer (some ⟨w.heap.size, 0, none⟩))) (w.alloc (.cells zv.cells T)) := by simp [execOp, hT, Instr.alloc, newVar, newRow, zeroValue, typeInfo, hi, hzv]
  have hrel : @Rel L s1 E' w' := @Rel.next L _ _ _ _ _ _ rel (by omega) h2 (by rw [hn]; exact h4)
  have hw : @Went L s E w s1 E' w' := @Went.mk L _ _ _ _ _ _ hrel (by omega) (by rw [hn]; exact h4)
  have hk : v = .pointer (some ⟨w.heap.size, 0, none⟩) ∧ w' = w.alloc (.cells zv.cells T) := by
    rcases h1 with h1 | ⟨h1, _⟩
    · rw [hrun] at h1; injection h1 with h5 h6; injection h5 with h5; exact ⟨h5.symm, h6.symm⟩
    · rw [hrun] at h1; injection h1 with h5 h6; cases h5
  have hlen2 : zv.cells.size = l.length := by have := (hrow E w).1.len; simpa using this
  have ht : Typed E' w' s.n T l.length := by
    obtain ⟨hv, rfl⟩ := hk
    rw [← hlen2]
    exact typed_new hv h3
  unfold Oper.wp
  rw [hrun]
  obtain ⟨rfl, rfl⟩ := hk
  refine hK _ _ ?_
  refine Code.wp_mono ?_ (h (a.put op.dst _) E' _ ?_ (Rel.more hrel ht))
  · rintro e a' w' ⟨rc, q1, q2⟩
    exact ⟨rc, q1, @CodePost.trans L _ _ _ _ _ _ _ hw _ _ _ _ (CodePost.less q2)⟩
  · have := (rf.mono (hw.ext.le rel.h)).put (cd := .d (.ofNat d)) (dst := op.dst) (.inr ⟨d, hd, rfl, hdn, hd2⟩) h3
    exact this
end
end Go.Vm
namespace Go.Vm
set_option linter.unusedVariables false
variable {P : Program}
theorem run_range_nil {t kt e : TypeId} (ht : P.underlying t = some (.map kt e)) {w : World} : (Instr.range t (.map none)).run P w = .ok (.pointer (some ⟨w.heap.size, 0, none⟩)) (w.alloc (.mapIter none 0 #[] 0)) := by
  simp [Instr.range, run_underlying ht]
theorem next_nil {w : World} {r : Nat} (hi : w.heap[r]? = some (.mapIter none 0 #[] 0)) (t : TypeId) : (Instr.next (.pointer (some ⟨r, 0, none⟩)) false t).run P w = .ok (.tuple #[.bool false]) w := by
  have hgi : (getObj r).run P w = .ok (.mapIter none 0 #[] 0) w := by simp [getObj, Sem.run, hi]
  simp [Instr.next, hgi]
/-- Operations in the text's order, others behind them. -/
theorem ops_goodA [Lay] {call : CallT} (hsc : SoundCall P call) {nt : Nat} {ops : Array Oper} {Q : Exit → Act → World → Prop} {l m : List Oper} {cl : List CR} (hl : l.mapM (copR P nt ops) = some cl) (f : Fr AV) (s0 s : St) (a : Act) (E0 E : Env) (w0 w : World)
    (hw : Went s0 E0 w0 s E w) (rf : RF E w nt f a) (hne : exops call cl f s ≠ .no) (hQ : ∀ f' s' E' a' w', exops call cl f s = .nor f' s' → RF E' w' nt f' a' → Went s0 E0 w0 s' E' w' → wpList P ops Q m a' w') : wpList P ops Q (l ++ m) a w := by
  induction l generalizing cl f s a E w with
  | nil =>
    simp at hl; subst hl
    exact hQ f s E a w rfl rf hw
  | cons o l ih =>
    simp only [List.mapM_cons, Option.bind_eq_bind, Option.bind_eq_some_iff, Option.pure_def, Option.some.injEq] at hl
    obtain ⟨cr, hcr, cl, hcl, rfl⟩ := hl
    simp only [copR, Option.bind_eq_bind, Option.bind_eq_some_iff, Option.some.injEq] at hcr
    obtain ⟨cd, hcd, co, hco, cg, hcg, rfl⟩ := hcr
    have hdo := copD_ok hcd
    have hwe := wanted_eq hcg rf
    have e : exops call (.mk cd co cg :: cl) f s = br (wanted cg f) ((exop co call f s).on .no fun v s => exops call cl (putD cd v f) s) (exops call cl (putD cd undef f) s) := rfl
    rw [e] at hne hQ
    cases hwt : wanted cg f with
    | false =>
      rw [hwt, br_false] at hne hQ
      rw [List.cons_append]
      unfold wpList
      rw [if_neg (by rw [hwe, hwt]; simp)]
      exact ih hcl _ s _ E w hw (rf.put hdo (RV.undef E w)) hne hQ
    | true =>
      rw [hwt, br_true] at hne hQ
      cases hx : exop co call f s with
      | no => rw [hx] at hne; exact absurd rfl hne
      | ok v s' =>
        rw [hx] at hne hQ
        have hout : OpOut P o a s E w v s' := by
          have hg := exop_good (call := call) hco rf hw.rel.h hx
          cases hk : co.kind with
          | quiet => rw [hk] at hg; obtain ⟨rfl, hg⟩ := hg; exact .of hw.rel (Nat.le_refl _) (hg _ _)
          | read => rw [hk] at hg; obtain ⟨rfl, hg⟩ := hg; exact .of hw.rel (Nat.le_refl _) (hg _ _)
          | alloc =>
            rw [hk] at hg
            obtain ⟨h1, h2⟩ := hg (hw.rel.n s.n (Nat.le_refl _))
            exact .of hw.rel (by omega) (by rw [h1]; exact h2)
          | «mut» => rw [hk] at hg; exact hg hw.rel hsc
        rw [List.cons_append]
        refine wpList_step (fun K hK => ?_)
        rw [if_pos (by rw [hwe, hwt])]
        refine hout.2 K _ (fun E' w' u h1 h2 h3 => hK _ _ ?_)
        have hw2 : Went s E w s' E' w' := ⟨h1, hout.1, h3⟩
        exact ih hcl _ s' _ E' w' (hw.trans hw2) ((rf.mono (hw2.toLe hw.rel)).put hdo h2) hne hQ
/-- A loop over a map that isn't there. -/
theorem rangedN_good [Lay] {nt : Nat} (T : Turning P nt) {call : CallT} (hsc : SoundCall P call) {id4 : Nat} {ops4 : Array Oper} {l0 : List Oper} {o1 : Oper} (h4 : ops4.toList = l0 ++ [o1]) {cd1 : CD} {c0 : List CR} (hc0 : l0.mapM (copR P nt ops4) = some c0)
    {t kt et : TypeId} {x : Tmp} (hx256 : x < 256) (hop1 : o1.op = .range t (.tmp x)) (ht : P.underlying t = some (.map kt et)) (hg1 : o1.guard = none) (hd1 : copD nt o1.dst = some cd1)
    {f f1 : Fr AV} {s s1 s2 : St} {a : Act} {E : Env} {w : World} (rf : RF E w nt f a) (rel : Rel s E w) (hx0 : exops call c0 f s = .nor f1 s1) (hv : (Sl.ofNat x).get f1 = .nilm)
    (hs2 : s2.n.val = s1.n.val + 1) (ho2 : ∀ b, s2.obj b = s1.obj b) (Q : Exit → Act → World → Prop)
    (hne : T.last call s1.n (putD cd1 (.ptr s1.n 0) f1) s2 ≠ .no)
    (hQ : ∀ f' s' E' a' w', T.last call s1.n (putD cd1 (.ptr s1.n 0) f1) s2 = .nor f' s' → RF E' w' nt f' a' → Went s E w s' E' w' → Q .normal a' w') :
    (Code.seq (.region id4 ops4 false) (.block T.id0 (.loop T.code))).wp P Q a w := by
  refine wp_seq (wp_region_list ?_)
  rw [h4]
  refine ops_goodA hsc hc0 f s s a E E w w (.refl rel) rf (by rw [hx0]; intro h; cases h) (fun f1' s1' E1 a1 w1 hx1 rf1 h1 => ?_)
  rw [hx0] at hx1
  cases hx1
  have rh := h1.rel.h
  have hval : a1.eval (.tmp x) = .map none := by
    have h2 := rf1.slot x hx256
    rw [hv] at h2
    show a1.tmps.getD x Go.undef = _
    generalize a1.tmps.getD x Go.undef = u at h2
    cases h2; rfl
  have hfresh : ¬ E1.D s1.n := h1.rel.n s1.n (Nat.le_refl _)
  let w2 := w1.alloc (.mapIter none 0 #[] 0)
  let E2 : Env := ⟨fun b => if b = s1.n then ⟨w1.heap.size, 0, none⟩ else E1.φ b, E1.I, fun b => E1.D b ∨ b = s1.n⟩
  have hφ : ∀ b, E1.D b → E2.φ b = E1.φ b := fun b hb => if_neg (fun h' : b = s1.n => hfresh (by rw [← h']; exact hb))
  have hφn : E2.φ s1.n = ⟨w1.heap.size, 0, none⟩ := if_pos rfl
  have hheap : w2.heap = w1.heap.push (.mapIter none 0 #[] 0) := rfl
  have hold : ∀ j, j < w1.heap.size → w2.heap[j]? = w1.heap[j]? := fun j hj => by rw [hheap, Array.getElem?_push, if_neg (by omega)]
  have hsz : w1.heap.size ≤ w2.heap.size := by rw [hheap, Array.size_push]; omega
  have hle : Le E1 w1 E2 w2 := ⟨fun b hb => .inl hb, hφ, fun _ hk => hk, fun k hk => hold k (rh.seen k hk), .of_old hold⟩
  have hlive : ∀ b, s2.obj b ≠ .dead → s1.obj b ≠ .dead := fun b hb => by rw [ho2] at hb; exact hb
  have rh2 : RelH s2.obj E2 w2 := (rel_keep rh hle hold hsz (fun k hk => .inl hk)).kill (fun b => .inr (ho2 b))
  have hw2 : Went s1 E1 w1 s2 E2 w2 := by
    refine ⟨⟨fun b hb hD => ?_, rh2, h1.rel.laid.le hle⟩, by omega, ⟨hle.D, hφ, fun b hb => ?_, fun _ hk => hk, fun _ hk => .inl hk, rfl, rfl, rfl, hsz, fun k hk _ => hold k hk, .of_old hold, fun b hb => ?_⟩⟩
    · rcases hD with hD | rfl
      · exact h1.rel.n b (by omega) hD
      · omega
    · rcases hb with hb | rfl
      · exact .inl hb
      · exact .inr ⟨Nat.le_refl _, by omega⟩
    · have := hlive b hb
      exact .inl ⟨b, this, by rw [hφ b (rh.old b this)]⟩
  refine own_good hg1 (w' := w2) (v := .pointer (some ⟨w1.heap.size, 0, none⟩)) (by simp [execOp, hop1, hval, run_range_nil ht]; rfl) (wpList_nil ?_)
  have hrv : RV E2 w2 (.ptr s1.n 0) (.pointer (some ⟨w1.heap.size, 0, none⟩)) := by
    have := RV.ptr (E := E2) (w := w2) s1.n 0 (.inr rfl)
    rwa [hφn] at this
  have rf2 := (rf1.mono hle).put (copD_ok hd1) hrv
  generalize hf2 : putD cd1 (.ptr s1.n 0) f1 = f2 at *
  have hisit : isIt T.it s1.n f2 = true := by
    cases hi : isIt T.it s1.n f2 with
    | true => rfl
    | false =>
      exfalso; apply hne
      show br (isIt T.it s1.n f2) _ _ = _
      rw [hi]; rfl
  have hval2 := isIt_val T.hit hisit rf2 hφn
  have hit : w2.heap[w1.heap.size]? = some (.mapIter none 0 #[] 0) := by rw [hheap]; simp
  refine wp_block (wp_loop_rounds 1 ?_)
  show T.code.wp P (Exit.then (Code.rounds P T.code _ 0) _) _ w2
  refine wp_seq (wp_region_list ?_)
  rw [T.h5]
  have e1 : T.last call s1.n f2 s2 = seqK (fun f s => (ev1 f T.b).onBool .no fun t => br t .no (.nor f s)) (exops call T.c5 (putD T.nx (.tup [.bool false]) f2) s2) := by
    unfold Turning.last; rw [hisit]; rfl
  rw [e1] at hne
  refine own_good T.hg2 (w' := w2) (v := .tuple #[.bool false]) (by simp [execOp, T.hop2, hval2, next_nil hit]) ?_
  have hrv2 : RV E2 w2 (.tup [.bool false]) (.tuple #[.bool false]) := .tup [.bool false] [.bool false] rfl (RL.cons (.bool false) (RL.nil E2 w2)).each
  refine ops_goodQ hsc T.hc5 (putD T.nx (.tup [.bool false]) f2) s2 s2 _ E2 E2 w2 w2 (.refl hw2.rel) (rf2.put (copD_ok T.hd2) hrv2) (seqK_no hne) (fun f3 s3 E3 a3 w3 g1 g2 g3 => ?_)
  rw [g1] at hne e1
  have hne1 : ((ev1 f3 T.b).onBool .no fun t => br t .no (.nor f3 s3)) ≠ RC.no := hne
  have hbv := cod_rv T.hb g2
  cases hcv : ev1 f3 T.b with
  | bool t =>
    rw [hcv] at hne1 hbv
    cases t with
    | true => exact absurd rfl hne1
    | false =>
      refine wp_seq (wp_cond_false (rv_bool hbv) (wp_exit ?_))
      show if T.id0 = T.id0 then _ else _
      rw [if_pos rfl]
      refine hQ f3 s3 E3 a3 w3 ?_ g2 (h1.trans (hw2.trans g3))
      rw [e1]
      show ((ev1 f3 T.b).onBool RC.no fun t => br t RC.no (RC.nor f3 s3)) = _
      rw [hcv]; rfl
  | _ => rw [hcv] at hne1; exact absurd rfl hne1
/-- What a loop over a map starts from. -/
structure Ranged2 (P : Program) (nt : Nat) (id4 : Nat) (ops4 : Array Oper) (c0 : List CR) (cd1 : CD) (x : Tmp) : Prop where
  shape : ∃ l0 o1 t kt et, ops4.toList = l0 ++ [o1] ∧ l0.mapM (copR P nt ops4) = some c0 ∧ x < 256 ∧ o1.op = .range t (.tmp x) ∧ P.underlying t = some (.map kt et) ∧ o1.guard = none ∧ copD nt o1.dst = some cd1
theorem Runs.rangeN [Lay] {nt : Nat} (T : Turning P nt) {call : CallT} (hsc : SoundCall P call) {id4 : Nat} {ops4 : Array Oper} {cd1 : CD} {c0 : List CR} {x : Tmp} (hR : Ranged2 P nt id4 ops4 c0 cd1 x)
    {f f1 : Fr AV} {s s1 s2 : St} (hx0 : exops call c0 f s = .nor f1 s1) (hv : (Sl.ofNat x).get f1 = .nilm)
    (hs2 : s2.n.val = s1.n.val + 1) (ho2 : ∀ b, s2.obj b = s1.obj b) (hne : T.last call s1.n (putD cd1 (.ptr s1.n 0) f1) s2 ≠ .no) :
    Runs P nt (Code.seq (.region id4 ops4 false) (.block T.id0 (.loop T.code))) f s (fun rc => rc = T.last call s1.n (putD cd1 (.ptr s1.n 0) f1) s2) := by
  intro a E w rf rel
  obtain ⟨l0, o1, t, kt, et, h4, hc0, hx256, hop1, ht, hg1, hd1⟩ := hR.shape
  exact rangedN_good T hsc h4 hc0 hx256 hop1 ht hg1 hd1 rf rel hx0 hv hs2 ho2 _ hne (fun f' s' E' a' w' h2 h3 h4 => ⟨_, rfl, f', s', E', h2, h3, h4⟩)
/-- A function that goes over a map once: where the map isn't there. -/
structure MapFn0 (P : Program) (g : Nat) where
  fn : Func
  b : Code
  rs : List Res
  hf : P.funcs[g]? = some fn
  hb : fn.body = some b
  hname : fn.name ≠ "runtime.NumGoroutine"
  hrs : fn.results.toList.mapM (copRes P) = some rs
  hnt : fn.ntmps ≤ 256
  T : Turning P fn.ntmps
  pre : List Code
  cpre : List CC
  hpre : pre.mapM (cc P fn.ntmps) = some cpre
  post : Code
  cpost : CC
  hpost : cc P fn.ntmps post = some cpost
  id4 : Nat
  ops4 : Array Oper
  c0 : List CR
  cd1 : CD
  x : Tmp
  hR : Ranged2 P fn.ntmps id4 ops4 c0 cd1 x
  hbody : b = chainCode pre (.seq (.seq (.region id4 ops4 false) (.block T.id0 (.loop T.code))) post)
section
variable {g : Nat} (M : MapFn0 P g) (call : CallT) (n : Nat)
/-- Its answer where the map isn't there. -/
noncomputable def MapFn0.by0 (ib : Id) (f2 : Fr AV) (s2 : St) : R := fin M.rs (seqK (excode call n M.cpost) (M.T.last call ib f2 s2))
noncomputable def MapFn0.ret01 (f : Fr AV) (s : St) : Option AV :=
  (exops call M.c0 f s).on none (fun f1 s1 => ((Sl.ofNat M.x).get f1).onMap none
    (s1.n.up none fun n' => (M.by0 call n s1.n (putD M.cd1 (.ptr s1.n 0) f1) (.mk s1.h n')).on none fun v' s' => Option.rec none (fun r => br (mt s' true r v') (some r) none) (vw s' true 64 v')) fun _ => none) (fun _ _ _ => none) fun _ _ => none
noncomputable def MapFn0.ret0 (args : List AV) : Option AV :=
  br (Nat.ble (ln args) M.fn.ntmps) ((excodes call n M.cpre (frame0 args) .empty).on none (fun f s => M.ret01 call n f s) (fun _ _ _ => none) fun _ _ => none) none
theorem MapFn0.seen0 [Lay] (hsc : SoundCall P call) (hdr : DrawnOk P call) {args : List AV} {r : AV} (h : M.ret0 call n args = some r) : Seen P g args r := by
  unfold MapFn0.ret0 at h
  cases hle : Nat.ble (ln args) M.fn.ntmps with
  | false => rw [hle] at h; cases h
  | true =>
    rw [hle, br_true] at h
    have hle' : args.length ≤ M.fn.ntmps := by have := Nat.le_of_ble_eq_true hle; rwa [ln_eq] at this
    cases hpre : excodes call n M.cpre (frame0 args) .empty with
    | no => rw [hpre] at h; cases h
    | exit i f s => rw [hpre] at h; cases h
    | ret f s => rw [hpre] at h; cases h
    | nor f s =>
      rw [hpre] at h
      have h1 : M.ret01 call n f s = some r := h
      unfold MapFn0.ret01 at h1
      cases hx : exops call M.c0 f s with
      | no => rw [hx] at h1; cases h1
      | exit i f1 s1 => rw [hx] at h1; cases h1
      | ret f1 s1 => rw [hx] at h1; cases h1
      | nor f1 s1 =>
        rw [hx] at h1
        have h2 : (((Sl.ofNat M.x).get f1).onMap none (s1.n.up none fun n' => (M.by0 call n s1.n (putD M.cd1 (.ptr s1.n 0) f1) (.mk s1.h n')).on none fun v' s' => Option.rec none (fun r => br (mt s' true r v') (some r) none) (vw s' true 64 v')) fun _ => none) = some r := h1
        cases hm : (Sl.ofNat M.x).get f1 <;> rw [hm] at h2 <;> first | (cases h2; done) | skip
        have h4 : (s1.n.up none fun n' => (M.by0 call n s1.n (putD M.cd1 (.ptr s1.n 0) f1) (.mk s1.h n')).on none fun v' s' => (Option.rec none (fun r => br (mt s' true r v') (some r) none) (vw s' true 64 v') : Option AV)) = some r := h2
        rcases Id.up_spec s1.n (none : Option AV) (fun n' => (M.by0 call n s1.n (putD M.cd1 (.ptr s1.n 0) f1) (.mk s1.h n')).on none fun v' s' => (Option.rec none (fun r => br (mt s' true r v') (some r) none) (vw s' true 64 v') : Option AV)) with hu | ⟨n', hn', hu⟩
        · rw [hu] at h4; cases h4
        · rw [hu] at h4
          cases hb : M.by0 call n s1.n (putD M.cd1 (.ptr s1.n 0) f1) (.mk s1.h n') with
          | no => rw [hb] at h4; cases h4
          | ok v' s' =>
            rw [hb] at h4
            have h5 : (Option.rec none (fun r => br (mt s' true r v') (some r) none) (vw s' true 64 v') : Option AV) = some r := h4
            have h6 : mt s' true r v' = true := by
              cases hv : vw s' true 64 v' with
              | none => rw [hv] at h5; cases h5
              | some r' =>
                rw [hv] at h5
                have h7 : br (mt s' true r' v') (some r') none = some r := h5
                cases ha : mt s' true r' v' with
                | false => rw [ha] at h7; cases h7
                | true => rw [ha, br_true] at h7; cases h7; exact ha
            have hb' : fin M.rs (seqK (excode call n M.cpost) (M.T.last call s1.n (putD M.cd1 (.ptr s1.n 0) f1) (.mk s1.h n'))) = .ok v' s' := hb
            intro F w vals rel hrl
            refine Calls.mono (fn_runs (Z := fun rc => rc = seqK (excode call n M.cpost) (M.T.last call s1.n (putD M.cd1 (.ptr s1.n 0) f1) (.mk s1.h n'))) (W := fun r0 s' => mt s' true r r0 = true) M.hf M.hb M.hrs M.hnt hle' ?_ (fun rc e => ⟨v', s', by rw [e]; exact hb', h6⟩) rel hrl) (fun e w' ⟨r0, s', E', u, q1, q2, q3, q4⟩ => ⟨r0, s', E', u, q1, q2, q3, q4⟩)
            rw [M.hbody]
            refine Runs.chain hsc hdr n M.hpre hpre ?_
            refine Runs.seq (Runs.rangeN M.T hsc M.hR hx hm (s2 := .mk s1.h n') hn' (fun b => rfl) (fun h0 => ?_)) (fun f3 s3 e => ?_) (fun rc e hn => ?_)
            · rw [h0] at hb'; cases hb'
            · have hne : excode call n M.cpost f3 s3 ≠ .no := by
                rw [← e] at hb'
                intro h0
                have h6 : fin M.rs (excode call n M.cpost f3 s3) = .ok v' s' := hb'
                rw [h0] at h6; cases h6
              refine (Runs.code hsc hdr n M.hpost hne).mono (fun rc hrc => ?_)
              rw [hrc, ← e]; rfl
            · rw [← e]
              cases rc with
              | nor f3 s3 => exact absurd rfl (hn f3 s3)
              | _ => rfl
/-- The calls of it. -/
noncomputable def MapFn0.pick (gid : Id) : Id → List AV → St → Option (List AV × AV) := fun g args s =>
  br (decide (g = gid)) (Option.rec none (fun pa => Option.rec none (fun r => some (pa, r)) (M.ret0 call n pa)) (mapO (vw s false 64) false args)) none
theorem MapFn0.sound [Lay] [Bare] (hsc : SoundCall P call) (hdr : ∀ call, SoundCall P call → DrawnOk P call) {gid : Id} (hg : gid.val = g) {call2 : CallT} (h2 : SoundCall P call2) : SoundCall P (picks (M.pick call n gid) call2) := by
  refine seen_sound h2 (fun g' args s en hen => ?_)
  unfold MapFn0.pick at hen
  by_cases hgg : g' = gid
  · rw [decide_eq_true hgg, br_true] at hen
    cases hv : mapO (vw s false 64) false args with
    | none => rw [hv] at hen; cases hen
    | some pa =>
      rw [hv] at hen
      have hen' : (Option.rec none (fun r => some (pa, r)) (M.ret0 call n pa) : Option (List AV × AV)) = some en := hen
      cases hr : M.ret0 call n pa with
      | none => rw [hr] at hen'; cases hen'
      | some r =>
        rw [hr] at hen'
        cases hen'
        subst hgg
        refine ⟨vws_mts hv, ⟨M.fn, by rw [hg]; exact M.hf, by rw [M.hb]; rfl, M.hname⟩, ?_⟩
        rw [hg]
        exact M.seen0 call n hsc (hdr call hsc) hr
  · rw [decide_eq_false hgg, br_false] at hen; cases hen
end
/-! ### What a library function laid anew -/
theorem went_new [Lay] {s : St} {E : Env} {w w' : World} (rel : Rel s E w) (h : RowKit.Below w.heap.size w w') {k0 : Nat} (h1 : w.heap.size ≤ k0) (h2 : k0 < w'.heap.size) : Went s E w s ⟨E.φ, fun k => E.I k ∨ k = k0, E.D⟩ w' := by
  have hle : Le E w ⟨E.φ, fun k => E.I k ∨ k = k0, E.D⟩ w' := ⟨fun _ h => h, fun _ _ => rfl, fun _ h => .inl h, fun k hk => h.block k (rel.h.seen k hk), .of_old h.block⟩
  exact ⟨⟨rel.n, rel_keep rel.h hle h.block h.size (fun k hk => hk.elim .inl fun e => .inr (by rw [e]; exact ⟨h1, h2⟩)), rel.laid.le hle⟩, Nat.le_refl _, ⟨fun _ h => h, fun _ _ => rfl, fun _ h => .inl h, fun _ h => .inl h, fun k hk => hk.elim .inl fun e => .inr (.inl (by rw [e]; exact h1)), h.os, h.tape, h.output, h.size, fun k hk _ => h.block k hk, .of_old h.block, fun b hb => .inl ⟨b, hb, rfl⟩⟩⟩
/-- A row that a library function laid anew, named. -/
theorem went_row [Lay] {s : St} {E : Env} {w w' : World} {cs : List AV} {us : List Value} {e : TypeId} (rel : Rel s E w) (hheap : w'.heap = w.heap.push (.cells us.toArray e (0, 0))) (hos : w'.os = w.os) (htape : w'.tape = w.tape) (hout : w'.output = w.output)
    (hrow : RL E w cs us) (h1 : ∀ c ∈ cs, c.one = true) : ∃ E' : Env, Went s E w (s.push (.cells cs)) E' w' ∧ E'.D s.n ∧ E'.φ s.n = ⟨w.heap.size, 0, none⟩ := by
  have hr := rel.h
  have hf : ¬ E.D s.n := rel.n s.n (Nat.le_refl _)
  let E' : Env := ⟨fun b => if b = s.n then ⟨w.heap.size, 0, none⟩ else E.φ b, E.I, fun b => E.D b ∨ b = s.n⟩
  have hφ : ∀ b, E.D b → E'.φ b = E.φ b := fun b hb => if_neg (fun h' : b = s.n => hf (by rw [← h']; exact hb))
  have hφn : E'.φ s.n = ⟨w.heap.size, 0, none⟩ := if_pos rfl
  have hold : ∀ k, k < w.heap.size → w'.heap[k]? = w.heap[k]? := fun k hk => by rw [hheap, Array.getElem?_push, if_neg (by omega)]
  have hsz : w.heap.size ≤ w'.heap.size := by rw [hheap, Array.size_push]; omega
  have hs' : ∀ c, (s.push (.cells cs)).obj c = if c = s.n then .cells cs else s.obj c := fun c => push_obj s _ c
  have hlive : ∀ b, b ≠ s.n → (s.push (.cells cs)).obj b = s.obj b := fun b hb => by rw [hs', if_neg hb]
  have hle : Le E w E' w' := ⟨fun b hb => .inl hb, hφ, fun _ hk => hk, fun k hk => hold k (hr.seen k hk), .of_old hold⟩
  have hn : (s.push (.cells cs)).obj s.n = .cells cs := by rw [hs', if_pos rfl]
  refine ⟨E', ⟨⟨fun b hb hD => ?_, rel_step hr hle s.n (.inr rfl) (fun cs' hc => ?_) (fun es hc => ?_) (fun b hb hd => ?_) ?_ (fun _ hk => hk) hsz, rel.laid.le hle⟩, by rw [push_n]; omega, ⟨fun b hb => .inl hb, hφ, ?_, fun _ hk => hk, fun _ hk => .inl hk, hos, htape, hout, hsz, fun k hk _ => hold k hk, .of_old hold, ?_⟩⟩, .inr rfl, hφn⟩
  · rw [push_n] at hb
    rcases hD with hD | rfl
    · exact rel.n b (by omega) hD
    · omega
  · rw [hn] at hc
    cases hc
    refine ⟨us.toArray, e, us, ?_, hrow.mono hle, fun j u hu => ?_, h1⟩
    · rw [hφn, hheap]; simp
    · rw [hφn]
      simp only [Nat.zero_add, List.getElem?_toArray]
      exact hu
  · rw [hn] at hc; cases hc
  · have e := hlive b hb
    rw [e] at hd
    have := hr.block_lt hd
    exact ⟨e, hold _ this, by rw [hφn]; show w.heap.size ≠ _; omega⟩
  · rw [hφn]; intro hI; have := hr.seen _ hI; simp at this
  · rintro b (hb | rfl)
    · exact .inl hb
    · exact .inr ⟨Nat.le_refl _, by rw [push_n]; omega⟩
  · intro b hb
    by_cases hbn : b = s.n
    · rw [hbn, hφn]; exact .inr (Nat.le_refl _)
    · rw [hlive b hbn] at hb
      rw [hφ b (hr.old b hb)]; exact .inl ⟨b, hb, rfl⟩
/-! ### Tables -/
noncomputable def pkT (T : Tab (List (List AV × AV))) : Id → List AV → St → Option (List AV × AV) := fun g args s => lookQ (g.get T) args s
theorem pkT_sound [Lay] [Bare] {T : Tab (List (List AV × AV))} (h : ∀ (g : Id) (e : List AV × AV), e ∈ g.get T → Has P g.val ∧ Seen P g.val e.1 e.2) (call : CallT) (hc : SoundCall P call) : SoundCall P (picks (pkT T) call) := by
  refine seen_sound hc (fun g args s en hen => ?_)
  unfold pkT at hen
  rw [lookQ_eq] at hen
  obtain ⟨h1, h2⟩ := look_some hen
  exact ⟨h2, (h g en h1).1, (h g en h1).2⟩
end Go.Vm
