/- Code, step by step, for whatever values. No condition. -/
import Derived.Test.YtfndnjmnakdglaaGreatDoorVmV
import Derived.Lib.Bytealg
import Derived.Below
import Derived.Test.YtfndnjmnakdglaaGreatDoorVmS
namespace Go.Vm
set_option linter.unusedVariables false
variable {P : Program}
noncomputable def vcells (o : AO) (k : List AV → R) (h : Hold k := .mk) : R := o.onCells .no k
theorem vcells_cells (cs : List AV) (k : List AV → R) : vcells (.cells cs) k = k cs := nd rfl
noncomputable def lenOf (v : AV) : Nat := v.onSl 0 0 (fun _ _ l _ _ => l) fun _ l _ _ => l
noncomputable def rowOf (s : St) (v : AV) : List AV := v.onSl [] [] (fun b o _ _ _ => (s.obj b).row.drop o) fun cs _ _ _ => cs
noncomputable def elp (v : AV) (k : Nat) : AV := v.onSl .nilp .nilp (fun b o _ _ _ => .ptr b (o + k)) fun cs _ _ _ => .tp (cs.drop k)
def Ov (n : Nat) (v : AV) : Prop := ∀ s, Fz n s v v
theorem fz_fix {n m : Nat} {s t : St} (hm : n ≤ m) {v w : AV} (h : Fz n s v w) : v = w → Fz m t v w := by
  have row : ∀ {cs l : List AV}, (∀ (j : Nat) (c d : AV), cs[j]? = some c → l[j]? = some d → c = d → Fz m t c d) → cs = l → ∀ (j : Nat) (c d : AV), cs[j]? = some c → l[j]? = some d → Fz m t c d := by
    intro cs l ih e j c d hc hd
    subst e
    rw [hc] at hd
    exact ih j c d hc (by rw [hc]; exact hd) (Option.some.inj hd)
  induction h with
  | bool b => intro _; exact .bool b
  | int k i => intro _; exact .int k i
  | str l => intro _; exact .str l
  | nilp => intro _; exact .nilp
  | nils => intro _; exact .nils
  | nilm => intro _; exact .nilm
  | nilf => intro _; exact .nilf
  | nili => intro _; exact .nili
  | ptrO b o h => intro _; exact .ptrO b o (by omega)
  | slO b o len cap ex h => intro _; exact .slO b o len cap ex (by omega)
  | mapO b h => intro _; exact .mapO b (by omega)
  | ptrN b o cs l h hc hl hr ih => intro e; cases e
  | slN b o len cap ex cs l h hc hl hr ih => intro e; cases e
  | tp cs l hl hr ih => intro e; injection e with e; exact .tp cs l hl (row ih e)
  | ts cs l len cap ex hl hr ih => intro e; injection e with e; exact .ts cs l len cap ex hl (row ih e)
  | agg cs l hl hr ih => intro e; injection e with e; exact .agg cs l hl (row ih e)
  | tup cs l hl hr ih => intro e; injection e with e; exact .tup cs l hl (row ih e)
  | fn f as bs l k hl hr hm hs ih1 ih2 => intro e; injection e with e0 e1 e2; exact .fn f as bs l k hl (row ih1 e1) hm (row ih2 e2)
  | ifc u v w h ih => intro e; injection e with e0 e1; exact .ifc u v w (ih e1)
theorem Ov.mono {n m : Nat} (hm : n ≤ m) {v : AV} (h : Ov n v) : Ov m v := fun s => fz_fix hm (h s) rfl
theorem ov_bool (n : Nat) (b : Bool) : Ov n (.bool b) := fun _ => .bool b
theorem ov_int (n : Nat) (k : IntKind) (i : Int) : Ov n (.int k i) := fun _ => .int k i
theorem ov_str (n : Nat) (l : List UInt8) : Ov n (.str l) := fun _ => .str l
theorem ov_nils (n : Nat) : Ov n .nils := fun _ => .nils
theorem ov_row {n : Nat} {cs : List AV} (h : ∀ c ∈ cs, Ov n c) (t : St) : ∀ (j : Nat) (c d : AV), cs[j]? = some c → cs[j]? = some d → Fz n t c d := by
  intro j c d hc hd
  rw [hc] at hd; cases hd
  exact h c (List.mem_of_getElem? hc) t
theorem ov_ts {n : Nat} {cs : List AV} (h : ∀ c ∈ cs, Ov n c) (len cap : Nat) (ex : Bool) : Ov n (.ts cs len cap ex) := fun t => .ts cs cs len cap ex rfl (ov_row h t)
theorem ov_agg {n : Nat} {cs : List AV} (h : ∀ c ∈ cs, Ov n c) : Ov n (.agg cs) := fun t => .agg cs cs rfl (ov_row h t)
theorem ov_tup {n : Nat} {cs : List AV} (h : ∀ c ∈ cs, Ov n c) : Ov n (.tup cs) := fun t => .tup cs cs rfl (ov_row h t)
theorem ov_sl {n : Nat} {b : Id} (h : b.val < n) (o len cap ex : Nat) : Ov n (.sl b o len cap ex) := fun _ => .slO b o len cap ex h
inductive IsSl (s : St) : AV → Prop where
  | nils : IsSl s .nils
  | ts (cs : List AV) (len cap : Nat) (ex : Bool) (hm : len ≤ limit) (ho : ∀ c ∈ cs, Ov s.n.val c) : IsSl s (.ts cs len cap ex)
  | sl (b : Id) (o len cap ex : Nat) (cs : List AV) (hm : len ≤ limit) (h : s.obj b = .cells cs) (hb : b.val < s.n.val) (hoo : o ≤ cs.length) : IsSl s (.sl b o len cap ex)
structure Ext (s s' : St) : Prop where
  n : s.n.val ≤ s'.n.val
  old : Old s s'
theorem Ext.refl (s : St) : Ext s s := ⟨Nat.le_refl _, fun _ _ => rfl⟩
theorem Ext.trans {s s1 s2 : St} (h : Ext s s1) (k : Ext s1 s2) : Ext s s2 := ⟨Nat.le_trans h.n k.n, fun b hb => (k.old b (Nat.lt_of_lt_of_le hb h.n)).trans (h.old b hb)⟩
theorem IsSl.ov {s : St} {v : AV} (h : IsSl s v) : Ov s.n.val v := by
  cases h with
  | nils => exact ov_nils _
  | ts cs len cap ex hm ho => exact ov_ts ho _ _ _
  | sl b o len cap ex cs hm h hb hoo => exact ov_sl hb _ _ _ _
theorem IsSl.most {s : St} {v : AV} (h : IsSl s v) : lenOf v ≤ 140737488355328 := by
  cases h with
  | nils => exact Nat.zero_le _
  | ts cs len cap ex hm ho => exact hm
  | sl b o len cap ex cs hm h hb hoo => exact hm
theorem IsSl.ext {s s' : St} (h : Ext s s') {v : AV} (k : IsSl s v) : IsSl s' v := by
  cases k with
  | nils => exact .nils
  | ts cs len cap ex hm ho => exact .ts _ _ _ _ hm (fun c hc => (ho c hc).mono h.n)
  | sl b o len cap ex cs hm h1 hb hoo => exact .sl b o len cap ex cs hm (by rw [h.old b hb]; exact h1) (Nat.lt_of_lt_of_le hb h.n) hoo
theorem rowOf_ext {s s' : St} (h : Ext s s') {v : AV} (k : IsSl s v) : rowOf s' v = rowOf s v := by
  cases k with
  | nils => rfl
  | ts => rfl
  | sl b o len cap ex cs hm h1 hb hoo => show (s'.obj b).row.drop o = (s.obj b).row.drop o; rw [h.old b hb]
noncomputable def St.push (s : St) (o : AO) : St := St.rec (fun h n => .mk (n.set o h) (n.up n fun m => m)) s
theorem alloc_push {s : St} (o : AO) (k : Id → St → R) : s.alloc o k = k s.n (s.push o) := by
  cases s with | mk t n =>
  show (n.up .no fun m => k n (.mk (n.set o t) m)) = k n (.mk (n.set o t) (n.up n fun m => m))
  obtain ⟨m, hm, h1⟩ := n.up_all
  rw [h1, h1]
theorem push_n {s : St} (o : AO) : (s.push o).n.val = s.n.val + 1 := by
  have h1 := alloc_push (s := s) o fun b s' => .ok (.ptr b 0) s'
  rcases St.alloc_spec s o (fun b s' => .ok (.ptr b 0) s') with h2 | ⟨s', h2, h3, h4⟩
  · rw [h2] at h1; cases h1
  · rw [h4] at h1
    have := (ok_inj h1).2
    rw [← this]; exact h2
theorem push_obj (s : St) (o : AO) (c : Id) : (s.push o).obj c = if c = s.n then o else s.obj c := by
  cases s with | mk t n => exact Id.get_set c n o t
theorem push_self (s : St) (o : AO) : (s.push o).obj s.n = o := by rw [push_obj, if_pos rfl]
theorem push_old {s : St} {o : AO} {b : Id} (h : b.val < s.n.val) : (s.push o).obj b = s.obj b := by
  rw [push_obj, if_neg]; intro e; rw [e] at h; omega
theorem put_n (s : St) (b : Id) (o : AO) : (s.put b o).n = s.n := St.n_put s b o
theorem put_self (s : St) (b : Id) (o : AO) : (s.put b o).obj b = o := by rw [St.obj_put, if_pos rfl]
theorem put_ne {s : St} {b c : Id} {o : AO} (h : c.val ≠ b.val) : (s.put b o).obj c = s.obj c := by rw [St.obj_put, if_neg]; intro e; rw [e] at h; exact h rfl
theorem Ext.put {s s1 : St} (h : Ext s s1) {b : Id} (hb : s.n.val ≤ b.val) (o : AO) : Ext s (s1.put b o) :=
  ⟨by rw [put_n]; exact h.n, fun c hc => by rw [put_ne (by omega)]; exact h.old c hc⟩
section
variable (call : CallT) (f : Fr AV) (s : St)
theorem e_tt (n : Nat) : ev1 f (tt n) = (vv n).get f := nd rfl
theorem e_kk (n : Int) : ev1 f (kk n) = .int .i64 n := nd rfl
theorem e_c (a : AV) : ev1 f (.c a) = a := nd rfl
theorem evs_nil : evs f [] = [] := nd rfl
theorem evs_cons (x : CO) (l : List CO) : evs f (x :: l) = ev1 f x :: evs f l := nd rfl
theorem p_mv (x : CO) : exop (.mv x) call f s = .ok (ev1 f x) s := nd rfl
theorem p_pick (c a b : CO) : exop (.pick c a b) call f s = (ev1 f c).onBool .no fun t => .ok (br t (ev1 f a) (ev1 f b)) s := nd rfl
theorem onBool_bool {β : Type} (b : Bool) (d : β) (k : Bool → β) : (AV.bool b).onBool d k = k b := nd rfl
theorem br_true' {β : Type} (x y : β) : br true x y = x := nd rfl
theorem br_false' {β : Type} (x y : β) : br false x y = y := nd rfl
noncomputable def vbox (a : AV) (s : St) : R := a.lay fun l => s.alloc (.cells l) fun b s => .ok (.ptr b 0) s
theorem p_box (x : CO) : exop (.box x) call f s = vbox (ev1 f x) s := nd rfl
noncomputable def vload (agg : Bool) (sz : Nat) (p : AV) (s : St) : R := p.onPtr .no (fun b o => vcells (s.obj b) fun cs => wrap1 agg sz (cs.drop o) s) fun cs => wrap1 agg sz cs s
theorem p_load (agg : Bool) (sz : Nat) (x : CO) : exop (.load agg sz x) call f s = vload agg sz (ev1 f x) s := by
  show (ev1 f x).onPtr R.no (fun b o => (s.obj b).onCells .no fun cs => wrap1 agg sz (dr o cs) s) (fun cs => wrap1 agg sz cs s) = _
  simp only [dr_eq]; rfl
theorem vload_ptr (agg : Bool) (sz : Nat) (b : Id) (o : Nat) : vload agg sz (.ptr b o) s = vcells (s.obj b) fun cs => wrap1 agg sz (cs.drop o) s := nd rfl
theorem vload_tp (agg : Bool) (sz : Nat) (cs : List AV) : vload agg sz (.tp cs) s = wrap1 agg sz cs s := nd rfl
theorem wrap1_one (sz : Nat) (x : AV) (l : List AV) : wrap1 false sz (x :: l) s = .ok x s := nd rfl
theorem wrap1_agg {s : St} {sz : Nat} {l : List AV} (h : sz ≤ l.length) : wrap1 true sz l s = .ok (.agg (l.take sz)) s := by
  show br (Nat.beq (ln (tk sz l)) sz) (R.ok (.agg (tk sz l)) s) .no = _
  rw [tk_eq, ln_eq, List.length_take, Nat.min_eq_left h, Nat.beq_refl]; rfl
noncomputable def vfaddr (off : Nat) (p : AV) (s : St) : R := p.onPtr .no (fun b o => .ok (.ptr b (o + off)) s) fun cs => .ok (.tp (cs.drop off)) s
theorem p_faddr (off : Nat) (x : CO) : exop (.faddr off x) call f s = vfaddr off (ev1 f x) s := by
  show (ev1 f x).onPtr R.no (fun b o => .ok (.ptr b (Nat.add o off)) s) (fun cs => .ok (.tp (dr off cs)) s) = _
  simp only [dr_eq]; rfl
theorem vfaddr_ptr (off : Nat) (b : Id) (o : Nat) : vfaddr off (.ptr b o) s = .ok (.ptr b (o + off)) s := nd rfl
theorem vfaddr_tp (off : Nat) (cs : List AV) : vfaddr off (.tp cs) s = .ok (.tp (cs.drop off)) s := nd rfl
noncomputable def vfield (agg : Bool) (off sz : Nat) (a : AV) (s : St) : R := a.onAgg .no fun cs => wrap1 agg sz (cs.drop off) s
theorem p_field (agg : Bool) (off sz : Nat) (x : CO) : exop (.field agg off sz x) call f s = vfield agg off sz (ev1 f x) s := by
  show (ev1 f x).onAgg R.no (fun cs => wrap1 agg sz (dr off cs) s) = _
  simp only [dr_eq]; rfl
theorem vfield_agg (agg : Bool) (off sz : Nat) (cs : List AV) : vfield agg off sz (.agg cs) s = wrap1 agg sz (cs.drop off) s := nd rfl
noncomputable def vbin (op : BinOp) (a b : AV) (s : St) : R := a.onInt (a.onStr .no fun l => b.onStr .no fun m => strBin op l m s) fun j x => b.onInt .no fun k y => intBin op j x k y s
theorem p_bin (op : BinOp) (x y : CO) : exop (.bin op x y) call f s = vbin op (ev1 f x) (ev1 f y) s := nd rfl
theorem vbin_add (j : IntKind) (a b : Int) : vbin .add (.int j a) (.int j b) s = .ok (.int j (j.wrap (a + b))) s := by
  show br (keq j j) (R.ok (.int j (wr j (iadd a b))) s) .no = _
  rw [(keq_iff j j).mpr rfl, iadd_eq, wr_eq]; rfl
theorem vbin_sub (j : IntKind) (a b : Int) : vbin .sub (.int j a) (.int j b) s = .ok (.int j (j.wrap (a - b))) s := by
  show br (keq j j) (R.ok (.int j (wr j (iadd a (ineg b)))) s) .no = _
  rw [(keq_iff j j).mpr rfl, iadd_eq, ineg_eq, wr_eq]; rfl
theorem vbin_mul (j : IntKind) (a b : Int) : vbin .mul (.int j a) (.int j b) s = .ok (.int j (j.wrap (a * b))) s := by
  show br (keq j j) (R.ok (.int j (wr j (Int.mul a b))) s) .no = _
  rw [(keq_iff j j).mpr rfl, wr_eq]; rfl
theorem vbin_quo (j : IntKind) (a b : Int) (h : b ≠ 0) : vbin .quo (.int j a) (.int j b) s = .ok (.int j (j.wrap (a.tdiv b))) s := by
  show br (keq j j) (br (ieq b 0) .no (R.ok (.int j (wr j (a.tdiv b))) s)) .no = _
  rw [(keq_iff j j).mpr rfl, ieq_eq, wr_eq, show (b == 0) = false by simp [h]]; rfl
theorem vbin_rem (j : IntKind) (a b : Int) (h : b ≠ 0) : vbin .rem (.int j a) (.int j b) s = .ok (.int j (a.tmod b)) s := by
  show br (keq j j) (br (ieq b 0) .no (R.ok (.int j (a.tmod b)) s)) .no = _
  rw [(keq_iff j j).mpr rfl, ieq_eq, show (b == 0) = false by simp [h]]; rfl
theorem brn (b : Bool) : br b false true = !b := by cases b <;> rfl
theorem vbin_eql (j : IntKind) (a b : Int) : vbin .eql (.int j a) (.int j b) s = .ok (.bool (decide (a = b))) s := by
  show br (keq j j) (R.ok (.bool (ieq a b)) s) .no = _
  rw [(keq_iff j j).mpr rfl, ieq_eq]; rfl
theorem vbin_neq (j : IntKind) (a b : Int) : vbin .neq (.int j a) (.int j b) s = .ok (.bool (decide (a ≠ b))) s := by
  show br (keq j j) (R.ok (.bool (br (ieq a b) false true)) s) .no = _
  rw [(keq_iff j j).mpr rfl, ieq_eq, brn, br_true', decide_not]; rfl
theorem vbin_lss (j : IntKind) (a b : Int) : vbin .lss (.int j a) (.int j b) s = .ok (.bool (decide (a < b))) s := by
  show br (keq j j) (R.ok (.bool (ilt a b)) s) .no = _
  rw [(keq_iff j j).mpr rfl, ilt_eq]; rfl
theorem vbin_leq (j : IntKind) (a b : Int) : vbin .leq (.int j a) (.int j b) s = .ok (.bool (decide (a ≤ b))) s := by
  show br (keq j j) (R.ok (.bool (br (ilt b a) false true)) s) .no = _
  rw [(keq_iff j j).mpr rfl, ilt_eq, brn, br_true']
  congr 2; rw [Bool.eq_iff_iff]; simp
theorem vbin_gtr (j : IntKind) (a b : Int) : vbin .gtr (.int j a) (.int j b) s = .ok (.bool (decide (b < a))) s := by
  show br (keq j j) (R.ok (.bool (ilt b a)) s) .no = _
  rw [(keq_iff j j).mpr rfl, ilt_eq]; rfl
theorem vbin_geq (j : IntKind) (a b : Int) : vbin .geq (.int j a) (.int j b) s = .ok (.bool (decide (b ≤ a))) s := by
  show br (keq j j) (R.ok (.bool (br (ilt a b) false true)) s) .no = _
  rw [(keq_iff j j).mpr rfl, ilt_eq, brn, br_true']
  congr 2; rw [Bool.eq_iff_iff]; simp
theorem vbin_seql (a b : List UInt8) : vbin .eql (.str a) (.str b) s = .ok (.bool (decide (a = b))) s := by
  show R.ok (.bool (beqs a b)) s = _
  rw [beqs_eq, show (a == b) = decide (a = b) by rw [Bool.eq_iff_iff]; simp]
theorem vbin_sneq (a b : List UInt8) : vbin .neq (.str a) (.str b) s = .ok (.bool (decide (a ≠ b))) s := by
  show R.ok (.bool (br (beqs a b) false true)) s = _
  rw [beqs_eq, brn, decide_not, show (a == b) = decide (a = b) by rw [Bool.eq_iff_iff]; simp]
theorem vbin_sadd (a b : List UInt8) (h : a.length + b.length ≤ 9223372036854775807) : vbin .add (.str a) (.str b) s = .ok (.str (a ++ b)) s := by
  show br (Nat.ble (Nat.add (ln a) (ln b)) 9223372036854775807) (R.ok (.str (apd a b)) s) .no = _
  rw [ln_eq, ln_eq, apd_eq, show Nat.ble (Nat.add a.length b.length) 9223372036854775807 = true by rw [Nat.ble_eq]; exact h]; rfl
noncomputable def vbeq (neg : Bool) (a b : AV) (s : St) : R := a.onBool .no fun a => b.onBool .no fun b => .ok (.bool (br neg (br a (br b false true) b) (br a b (br b false true)))) s
theorem p_beq (neg : Bool) (x y : CO) : exop (.beq neg x y) call f s = vbeq neg (ev1 f x) (ev1 f y) s := nd rfl
theorem vbeq_eq (a b : Bool) : vbeq false (.bool a) (.bool b) s = .ok (.bool (decide (a = b))) s := by cases a <;> cases b <;> rfl
noncomputable def vnot (a : AV) (s : St) : R := a.onBool .no fun b => .ok (.bool (br b false true)) s
theorem p_not (x : CO) : exop (.not x) call f s = vnot (ev1 f x) s := nd rfl
theorem vnot_bool (b : Bool) : vnot (.bool b) s = .ok (.bool (!b)) s := by cases b <;> rfl
noncomputable def vconv (k : IntKind) (a : AV) (s : St) : R := a.onInt .no fun _ n => .ok (.int k (wr k n)) s
theorem p_conv (k : IntKind) (x : CO) : exop (.conv k x) call f s = vconv k (ev1 f x) s := nd rfl
theorem vconv_int (j k : IntKind) (n : Int) : vconv k (.int j n) s = .ok (.int k (k.wrap n)) s := by
  show R.ok (.int k (wr k n)) s = _; rw [wr_eq]
noncomputable def vext (a : AV) (i : Nat) (s : St) : R := a.onTup .no fun vs => Option.rec .no (fun v => .ok v s) (nth i vs)
theorem p_ext (x : CO) (i : Nat) : exop (.ext x i) call f s = vext (ev1 f x) i s := nd rfl
theorem vext_0 (a : AV) (l : List AV) : vext (.tup (a :: l)) 0 s = .ok a s := nd rfl
theorem vext_1 (a b : AV) (l : List AV) : vext (.tup (a :: b :: l)) 1 s = .ok b s := nd rfl
theorem vext_2 (a b c : AV) (l : List AV) : vext (.tup (a :: b :: c :: l)) 2 s = .ok c s := nd rfl
theorem p_callf (g : Id) (as : List CO) : exop (.callf g as) call f s = call g (evs f as) s := nd rfl
noncomputable def vlens (a : AV) (s : St) : R := a.onStr .no fun l => .ok (.int .i64 (.ofNat (ln l))) s
theorem p_lens (x : CO) : exop (.lens x) call f s = vlens (ev1 f x) s := nd rfl
theorem vlens_str (l : List UInt8) : vlens (.str l) s = .ok (.int .i64 (l.length : Int)) s := by show R.ok (.int .i64 (.ofNat (ln l))) s = _; rw [ln_eq]; rfl
noncomputable def vlen (a : AV) (s : St) : R := a.onSl .no (.ok (.int .i64 0) s) (fun _ _ l _ _ => .ok (.int .i64 (.ofNat l)) s) fun _ l _ _ => .ok (.int .i64 (.ofNat l)) s
theorem p_len (x : CO) : exop (.len x) call f s = vlen (ev1 f x) s := nd rfl
noncomputable def viaddr (sz : Nat) (a i : AV) (s : St) : R := a.onSl .no .no (fun b o len _ _ => i.idx len fun m => .ok (.ptr b (o + m * sz)) s) fun cs len _ _ => i.idx len fun m => .ok (.tp (cs.drop (m * sz))) s
theorem p_iaddr (sz : Nat) (x i : CO) : exop (.iaddr sz x i) call f s = viaddr sz (ev1 f x) (ev1 f i) s := by
  show (ev1 f x).onSl R.no .no (fun b o len _ _ => (ev1 f i).idx len fun m => .ok (.ptr b (Nat.add o (Nat.mul m sz))) s) (fun cs len _ _ => (ev1 f i).idx len fun m => .ok (.tp (dr (Nat.mul m sz) cs)) s) = _
  simp only [dr_eq]; rfl
theorem idx_eq {j : IntKind} {i : Int} {n : Nat} (h0 : 0 ≤ i) (h1 : i < n) (k : Nat → R) : (AV.int j i).idx n k = k i.toNat := by
  obtain ⟨m, rfl⟩ := Int.eq_ofNat_of_zero_le h0
  show br (Nat.ble (Nat.succ m) n) (k m) .no = _
  rw [show Nat.ble (Nat.succ m) n = true by rw [Nat.ble_eq]; show m + 1 ≤ n; omega]; rfl
noncomputable def vsidx (a i : AV) (s : St) : R := a.onStr .no fun l => i.idx (ln l) fun m => Option.rec .no (fun c => .ok (.int .u8 (.ofNat (UInt8.toNat c))) s) (nth m l)
theorem p_sidx (x i : CO) : exop (.sidx x i) call f s = vsidx (ev1 f x) (ev1 f i) s := nd rfl
theorem vsidx_eq {j : IntKind} {l : List UInt8} {i : Int} (h0 : 0 ≤ i) (h1 : i < l.length) : vsidx (.str l) (.int j i) s = .ok (.int .u8 ((l[i.toNat]'(by omega)).toNat : Int)) s := by
  show (AV.int j i).idx (ln l) (fun m => Option.rec .no (fun c => .ok (.int .u8 (.ofNat (UInt8.toNat c))) s) (nth m l)) = _
  rw [ln_eq, idx_eq h0 h1, nth_eq, List.getElem?_eq_getElem (by omega)]; rfl
noncomputable def vmm (mx : Bool) (a b : AV) (s : St) : R := a.onInt .no fun j x => b.onInt .no fun k y => .ok (.int j (best mx x y)) s
theorem p_mm (mx : Bool) (x y : CO) : exop (.mm mx x [y]) call f s = vmm mx (ev1 f x) (ev1 f y) s := nd rfl
theorem vmm_max (j k : IntKind) (a b : Int) : vmm true (.int j a) (.int k b) s = .ok (.int j (max a b)) s := by
  show R.ok (.int j (br (ilt a b) b a)) s = _
  rw [ilt_eq]; congr 2
  by_cases h : a < b
  · rw [decide_eq_true h, br_true']; omega
  · rw [decide_eq_false h, br_false']; omega
theorem vmm_min (j k : IntKind) (a b : Int) : vmm false (.int j a) (.int k b) s = .ok (.int j (min a b)) s := by
  show R.ok (.int j (br (ilt b a) b a)) s = _
  rw [ilt_eq]; congr 2
  by_cases h : b < a
  · rw [decide_eq_true h, br_true']; omega
  · rw [decide_eq_false h, br_false']; omega
noncomputable def vnilck (a : AV) (s : St) : R := a.onNil3 (.ok a s) .no
theorem p_nilck (x : CO) : exop (.nilck x) call f s = vnilck (ev1 f x) s := nd rfl
theorem vnilck_ptr (b : Id) (o : Nat) : vnilck (.ptr b o) s = .ok (.ptr b o) s := nd rfl
theorem vnilck_tp (cs : List AV) : vnilck (.tp cs) s = .ok (.tp cs) s := nd rfl
end
section
variable {s : St} {v : AV}
theorem vlen_any {t : St} {v : AV} (h : IsSl t v) (s : St) : vlen v s = .ok (.int .i64 (lenOf v : Int)) s := by cases h <;> rfl
theorem viaddr_any {t : St} {v : AV} (h : IsSl t v) {i : Int} (h0 : 0 ≤ i) (h1 : i < lenOf v) (sz : Nat) (j : IntKind) (s : St) : viaddr sz v (.int j i) s = .ok (elp v (i.toNat * sz)) s := by
  cases h with
  | nils => exfalso; have : i < ((0 : Nat) : Int) := h1; omega
  | ts cs len cap ex hm ho => exact idx_eq (j := j) (n := len) h0 h1 _
  | sl b o len cap ex cs hm h hb hoo => exact idx_eq (j := j) (n := len) h0 h1 _
theorem vload_elp {agg : Bool} {sz k : Nat} (h : IsSl s v) (hn : rowOf s v ≠ []) : vload agg sz (elp v k) s = wrap1 agg sz ((rowOf s v).drop k) s := by
  cases h with
  | nils => exact absurd rfl hn
  | ts cs len cap ex hm ho => rfl
  | sl b o len cap ex cs hm h hb hoo =>
    show vcells (s.obj b) (fun cs => wrap1 agg sz (cs.drop (o + k)) s) = wrap1 agg sz (((s.obj b).row.drop o).drop k) s
    rw [h, List.drop_drop]; rfl
theorem vfaddr_any {t : St} {v : AV} (h : IsSl t v) (hn : rowOf t v ≠ []) (k off : Nat) (s : St) : vfaddr off (elp v k) s = .ok (elp v (k + off)) s := by
  cases h with
  | nils => exact absurd rfl hn
  | ts cs len cap ex hm ho => show R.ok (.tp ((cs.drop k).drop off)) s = .ok (.tp (cs.drop (k + off))) s; rw [List.drop_drop]
  | sl b o len cap ex cs hm h hb hoo => show R.ok (.ptr b (o + k + off)) s = .ok (.ptr b (o + (k + off))) s; rw [Nat.add_assoc]
end
theorem W_inv {call : CallT} {c : CC} {n : Fr AV → St → Prop} {e : Nat → Fr AV → St → Prop} {r : Fr AV → St → Prop} (Inv : Nat → Fr AV → St → Prop) (hs : ∀ k f s, Inv k f s → W call c (fun f s => ∃ k', k' < k ∧ Inv k' f s) e r f s) {k : Nat} {f : Fr AV} {s : St} (h : Inv k f s) : W call (.loop c) n e r f s := by
  induction k using Nat.strongRecOn generalizing f s with
  | ind k ih =>
    rw [W_loop]
    exact (hs k f s h).mono (fun f s ⟨k', h1, h2⟩ => ih k' h1 h2) (fun _ _ _ h => h) (fun _ _ h => h)
theorem f1_0 (a : AV) : (vv 0).get (frame0 [a]) = a := nd rfl
theorem f2_0 (a b : AV) : (vv 0).get (frame0 [a, b]) = a := nd rfl
theorem f2_1 (a b : AV) : (vv 1).get (frame0 [a, b]) = b := nd rfl
theorem f3_0 (a b c : AV) : (vv 0).get (frame0 [a, b, c]) = a := nd rfl
theorem f3_1 (a b c : AV) : (vv 1).get (frame0 [a, b, c]) = b := nd rfl
theorem f3_2 (a b c : AV) : (vv 2).get (frame0 [a, b, c]) = c := nd rfl
theorem f4_0 (a b c d : AV) : (vv 0).get (frame0 [a, b, c, d]) = a := nd rfl
theorem f4_1 (a b c d : AV) : (vv 1).get (frame0 [a, b, c, d]) = b := nd rfl
theorem f4_2 (a b c d : AV) : (vv 2).get (frame0 [a, b, c, d]) = c := nd rfl
theorem f4_3 (a b c d : AV) : (vv 3).get (frame0 [a, b, c, d]) = d := nd rfl
theorem settled_fz {s s0 : St} {r0 r : AV} (h : Ext s s0) (hf : Fz s.n.val s0 r0 r) : Settled s r0 s0 r s := .inl ⟨h.old, hf, rfl⟩
theorem settled_ov {s s0 : St} {r : AV} (h : Ext s s0) (hf : Ov s.n.val r) : Settled s r s0 r s := .inl ⟨h.old, hf s0, rfl⟩
theorem settled_flat {s s0 : St} {r0 : AV} (h : Ext s s0) (hf : r0.flat = true) : Settled s r0 s0 r0 s := by
  refine .inl ⟨h.old, ?_, rfl⟩
  cases r0 <;> first | (cases hf; done) | constructor
theorem wrap_i64 {x : Int} (h0 : -9223372036854775808 ≤ x) (h1 : x ≤ 9223372036854775807) : IntKind.wrap .i64 x = x := by
  simp only [IntKind.wrap, IntKind.bits, IntKind.signed]
  simp
  omega
theorem wrap_u64 {x : Int} (h0 : 0 ≤ x) (h1 : x ≤ 18446744073709551615) : IntKind.wrap .u64 x = x := by
  simp only [IntKind.wrap, IntKind.bits, IntKind.signed]
  simp
  omega
theorem wrap_u32 {x : Int} (h0 : 0 ≤ x) (h1 : x ≤ 4294967295) : IntKind.wrap .u32 x = x := by
  simp only [IntKind.wrap, IntKind.bits, IntKind.signed]
  simp
  omega
attribute [go_sem] W_skip W_exit W_ret W_seq W_block W_cond W_region Wo_nil Wo_oo Wo_on Wo_mm Wo_og onG_bool onG_undef onP_ok onB_bool onBool_bool br_true' br_false' vcells_cells vv_gs e_tt e_kk e_c evs_nil evs_cons p_mv p_pick p_box p_load p_faddr p_field p_bin p_beq p_not p_conv p_ext p_callf p_lens p_len p_iaddr p_sidx p_mm p_nilck vload_ptr vload_tp wrap1_one vfaddr_ptr vfaddr_tp vfield_agg vbin_add vbin_sub vbin_mul vbin_eql vbin_neq vbin_lss vbin_leq vbin_gtr vbin_geq vbin_seql vbin_sneq vbeq_eq vnot_bool vconv_int vext_0 vext_1 vext_2 vlens_str vmm_max vmm_min vnilck_ptr vnilck_tp f1_0 f2_0 f2_1 f3_0 f3_1 f3_2 f4_0 f4_1 f4_2 f4_3 if_true if_false decide_true decide_false List.drop_succ_cons List.drop_zero Nat.zero_add Nat.add_zero
end Go.Vm
namespace Go.Vm
set_option linter.unusedVariables false
variable {P : Program}
noncomputable def nm (s : St) (k : Nat) : Id := Id.ofNat (s.n.val + k)
noncomputable def Sx (s : St) : List AO → St := fun l => l.foldl St.push s
structure Room (s : St) : Prop where
  n : 0 ≤ s.n.val
  clean : ∀ b : Id, s.n.val ≤ b.val → s.obj b = .dead
theorem Sx_nil (s : St) : Sx s [] = s := rfl
theorem Sx_snoc (s : St) (l : List AO) (o : AO) : Sx s (l ++ [o]) = (Sx s l).push o := by unfold Sx; rw [List.foldl_append]; rfl
theorem foldl_n (l : List AO) : ∀ (s : St), (l.foldl St.push s).n.val = s.n.val + l.length := by
  induction l with
  | nil => intro s; rfl
  | cons o l ih =>
    intro s
    simp only [List.length_cons]
    rw [List.foldl_cons, ih, push_n]; omega
theorem Sx_n {s : St} {l : List AO} (hr : Room s) (hl : l.length ≤ 5000) : (Sx s l).n.val = s.n.val + l.length := foldl_n l s
theorem nm_val {s : St} (hr : Room s) {k : Nat} (hk : k ≤ 5000) : (nm s k).val = s.n.val + k := Id.val_of _
theorem Sx_n' {s : St} {l : List AO} (hr : Room s) (hl : l.length ≤ 5000) : (Sx s l).n = nm s l.length := Id.val_inj (by rw [Sx_n hr hl, nm_val hr hl])
theorem foldl_obj (l : List AO) : ∀ (s : St) (b : Id), (l.foldl St.push s).obj b = if b.val < s.n.val then s.obj b else if h : b.val - s.n.val < l.length then l[b.val - s.n.val] else s.obj b := by
  induction l with
  | nil => intro s b; simp
  | cons o l ih =>
    intro s b
    simp only [List.length_cons]
    have hn := push_n (s := s) o
    rw [List.foldl_cons, ih, hn]
    by_cases h1 : b.val < s.n.val
    · rw [if_pos h1, if_pos (by omega), push_old h1]
    · rw [if_neg h1]
      by_cases h2 : b.val = s.n.val
      · rw [if_pos (by omega), Id.val_inj h2, push_self]
        have e : s.n.val - s.n.val = 0 := by omega
        simp
      · rw [if_neg (by omega)]
        have hp : (s.push o).obj b = s.obj b := by rw [push_obj, if_neg]; intro e; rw [e] at h2; exact h2 rfl
        by_cases h3 : b.val - s.n.val < l.length + 1
        · rw [dif_pos (by omega), dif_pos (by simpa using h3)]
          have e : b.val - s.n.val = (b.val - (s.n.val + 1)) + 1 := by omega
          simp only [e, List.getElem_cons_succ]
        · rw [dif_neg (by omega), dif_neg (by simpa using h3), hp]
theorem Sx_obj {s : St} {l : List AO} (hr : Room s) (hl : l.length ≤ 5000) {i : Nat} (hi : i < l.length) : (Sx s l).obj (nm s i) = l[i] := by
  show (l.foldl St.push s).obj _ = _
  rw [foldl_obj l s, nm_val hr (by omega), if_neg (by omega), dif_pos (by omega)]
  congr 1; omega
theorem Sx_old {s : St} {l : List AO} (hr : Room s) (hl : l.length ≤ 5000) {b : Id} (hb : b.val < s.n.val) : (Sx s l).obj b = s.obj b := by
  show (l.foldl St.push s).obj _ = _
  rw [foldl_obj l s, if_pos hb]
theorem ext_Sx {s : St} {l : List AO} (hr : Room s) (hl : l.length ≤ 5000) : Ext s (Sx s l) := ⟨by rw [Sx_n hr hl]; omega, fun b hb => Sx_old hr hl hb⟩
theorem F16.ext' {α : Type} {f g : F16 α} (h : ∀ d : D16, d.get f = d.get g) : f = g := by
  cases f; cases g
  have h0 := h .d0; have h1 := h .d1; have h2 := h .d2; have h3 := h .d3; have h4 := h .d4; have h5 := h .d5; have h6 := h .d6; have h7 := h .d7
  have h8 := h .d8; have h9 := h .d9; have h10 := h .d10; have h11 := h .d11; have h12 := h .d12; have h13 := h .d13; have h14 := h .d14; have h15 := h .d15
  simp only [D16.get, g0, g1, g2, g3, g4, g5, g6, g7, g8, g9, g10, g11, g12, g13, g14, g15] at h0 h1 h2 h3 h4 h5 h6 h7 h8 h9 h10 h11 h12 h13 h14 h15
  subst h0 h1 h2 h3 h4 h5 h6 h7 h8 h9 h10 h11 h12 h13 h14 h15
  rfl
theorem Fr.ext' {α : Type} {f g : Fr α} (h : ∀ s : Sl, s.get f = s.get g) : f = g := F16.ext' fun i => F16.ext' fun j => h (.mk i j)
theorem St.ext' {s t : St} (hn : s.n = t.n) (ho : ∀ b, s.obj b = t.obj b) : s = t := by
  cases s with | mk h n => cases t with | mk k m =>
  have e : h = k := Tab.ext' ho Fr.ext'
  have e2 : n = m := hn
  rw [e, e2]
theorem Sx_put {s : St} {l : List AO} (hr : Room s) (hl : l.length ≤ 5000) {i : Nat} (hi : i < l.length) (o : AO) : (Sx s l).put (nm s i) o = Sx s (l.set i o) := by
  have hl' : (l.set i o).length ≤ 5000 := by rw [List.length_set]; exact hl
  refine St.ext' (by rw [put_n, Sx_n' hr hl, Sx_n' hr hl', List.length_set]) (fun b => ?_)
  rw [St.obj_put]
  show _ = ((l.set i o).foldl St.push s).obj b
  rw [foldl_obj _ s]
  by_cases hb : b = nm s i
  · have hv := nm_val hr (k := i) (by omega)
    rw [if_pos hb, hb, hv, if_neg (by omega), dif_pos (by rw [List.length_set]; omega)]
    have e : s.n.val + i - s.n.val = i := by omega
    simp only [e, List.getElem_set_self]
  · rw [if_neg hb]
    show (l.foldl St.push s).obj b = _
    rw [foldl_obj _ s]
    by_cases h1 : b.val < s.n.val
    · rw [if_pos h1, if_pos h1]
    · rw [if_neg h1, if_neg h1]
      by_cases h2 : b.val - s.n.val < l.length
      · rw [dif_pos h2, dif_pos (by rw [List.length_set]; exact h2), List.getElem_set_ne]
        intro e
        apply hb
        apply Id.val_inj
        rw [nm_val hr (by omega)]; omega
      · rw [dif_neg h2, dif_neg (by rw [List.length_set]; exact h2)]
theorem Sx_alloc {s : St} {l : List AO} (hr : Room s) (hl : l.length ≤ 5000) (o : AO) (k : Id → St → R) : (Sx s l).alloc o k = k (nm s l.length) (Sx s (l ++ [o])) := by
  rw [alloc_push, Sx_n' hr hl, Sx_snoc]
section
variable {s : St} {l : List AO} (hr : Room s) (hl : l.length ≤ 5000)
include hr hl
theorem Sx_box (cs : List AV) : vbox (.agg cs) (Sx s l) = .ok (.ptr (nm s l.length) 0) (Sx s (l ++ [.cells cs])) := by
  show (Sx s l).alloc (.cells cs) (fun b s => .ok (.ptr b 0) s) = _; rw [Sx_alloc hr hl]
noncomputable def vnew (z : List AV) (s : St) : R := s.alloc (.cells z) fun b s => .ok (.ptr b 0) s
theorem Sx_obj? {i : Nat} {o : AO} (hi : l[i]? = some o) : (Sx s l).obj (nm s i) = o := by
  obtain ⟨h1, h2⟩ := List.getElem?_eq_some_iff.mp hi
  rw [Sx_obj hr hl h1, h2]
end
noncomputable def vstore (sz : Nat) (p a : AV) (s : St) : R := p.onPtr .no (fun b o => vcells (s.obj b) fun cs => a.lay fun l => br (Nat.beq l.length sz) (br (Nat.ble (o + sz) cs.length) (.ok undef (s.put b (.cells (splice o l cs)))) .no) .no) fun _ => .no
theorem p_store (call : CallT) (f : Fr AV) (s : St) (sz : Nat) (x y : CO) : exop (.store sz x y) call f s = vstore sz (ev1 f x) (ev1 f y) s := by
  show (ev1 f x).onPtr R.no (fun b o => (s.obj b).onCells .no fun cs => (ev1 f y).lay fun l => br (Nat.beq (ln l) sz) (br (Nat.ble (Nat.add o sz) (ln cs)) (.ok undef (s.put b (.cells (splice o l cs)))) .no) .no) (fun _ => .no) = _
  simp only [ln_eq]; rfl
theorem splice_whole {α : Type} (xs l : List α) (h : xs.length = l.length) : splice 0 xs l = xs := by
  apply List.ext_getElem?
  intro j
  rw [splice_get]
  by_cases hj : j < l.length
  · rw [if_pos hj, if_pos (by omega)]; simp
  · rw [if_neg hj, List.getElem?_eq_none (by omega)]
theorem splice_one {α : Type} (o : Nat) (x : α) (l : List α) : splice o [x] l = l.set o x := by
  apply List.ext_getElem?
  intro j
  rw [splice_get, List.getElem?_set]
  by_cases hj : j < l.length
  · rw [if_pos hj]
    by_cases h : o = j
    · subst h; rw [if_pos (by simp), if_pos rfl, if_pos hj]; simp
    · rw [if_neg (by simp; omega), if_neg h]
  · rw [if_neg hj]
    by_cases h : o = j
    · subst h; rw [if_pos rfl, if_neg hj]
    · rw [if_neg h, List.getElem?_eq_none (by omega)]
theorem WF_S {call : CallT} {nt : Nat} {res : List Res} {body : CC} {args : List AV} {s : St} {K : AV → St → Prop} (h : args.length ≤ nt) (hw : W call body (fun f s => Rs K res f s) (fun _ _ _ => False) (fun f s => Rs K res f s) (frame0 args) (Sx s [])) : WF call (.mk nt res body) args s K := WF_mk h hw
theorem p_new (call : CallT) (f : Fr AV) (s : St) (z : List AV) : exop (.alloc z) call f s = vnew z s := nd rfl
theorem Sx_vnew {s : St} {l : List AO} (hr : Room s) (hl : l.length ≤ 5000) (z : List AV) : vnew z (Sx s l) = .ok (.ptr (nm s l.length) 0) (Sx s (l ++ [.cells z])) := by
  show (Sx s l).alloc (.cells z) (fun b s => .ok (.ptr b 0) s) = _; rw [Sx_alloc hr hl]
theorem Sx_objD {s : St} {l : List AO} (hr : Room s) (hl : l.length ≤ 5000) {i : Nat} (hi : i < l.length) : (Sx s l).obj (nm s i) = (l[i]?).getD .dead := by
  rw [Sx_obj hr hl hi, List.getElem?_eq_getElem hi]; rfl
noncomputable def fillV (f : Fr AV) : List Part → List AV → (List AV → R) → R
  | [], z, k => k z
  | p :: ps, z, k => (ev1 f p.x).lay fun l => br (Nat.beq l.length p.size) (br (Nat.ble (p.off + p.size) z.length) (fillV f ps (splice p.off l z) k) .no) .no
theorem fill_eq (f : Fr AV) (ps : List Part) : ∀ (z : List AV) (k : List AV → R), fill f ps z k = fillV f ps z k := by
  induction ps with
  | nil => intro z k; rfl
  | cons p ps ih =>
    intro z k
    obtain ⟨o, n, x⟩ := p
    show (ev1 f x).lay (fun l => br (Nat.beq (ln l) n) (br (Nat.ble (Nat.add o n) (ln z)) (fill f ps (splice o l z) k) .no) .no) = (ev1 f x).lay fun l => br (Nat.beq l.length n) (br (Nat.ble (o + n) z.length) (fillV f ps (splice o l z) k) .no) .no
    simp only [ln_eq, ih]; rfl
theorem fillV_nil (f : Fr AV) (z : List AV) (k : List AV → R) : fillV f [] z k = k z := nd rfl
noncomputable def layV (a : AV) (k : List AV → R) (h : Hold k := .mk) : R := a.lay k
theorem layV_agg (cs : List AV) (k : List AV → R) : layV (.agg cs) k = k cs := nd rfl
theorem layV_one (a : AV) (h : a.one = true) (k : List AV → R) : layV a k = k [a] := by cases a <;> first | rfl | cases h
theorem fillV_cons (f : Fr AV) (o n : Nat) (x : CO) (ps : List Part) (z : List AV) (k : List AV → R) : fillV f (⟨o, n, x⟩ :: ps) z k = layV (ev1 f x) fun l => if l.length = n ∧ o + n ≤ z.length then fillV f ps (splice o l z) k else .no := by
  show (ev1 f x).lay (fun l => br (Nat.beq l.length n) (br (Nat.ble (o + n) z.length) (fillV f ps (splice o l z) k) .no) .no) = _
  unfold layV
  congr 1; funext l
  by_cases h1 : l.length = n
  · by_cases h2 : o + n ≤ z.length
    · rw [if_pos ⟨h1, h2⟩, show Nat.beq l.length n = true by rw [h1]; exact Nat.beq_refl n, show Nat.ble (o + n) z.length = true by rw [Nat.ble_eq]; exact h2]; rfl
    · rw [if_neg (fun h => h2 h.2), show Nat.ble (o + n) z.length = false by rw [← Bool.not_eq_true, Nat.ble_eq]; exact h2]; cases Nat.beq l.length n <;> rfl
  · rw [if_neg (fun h => h1 h.1), show Nat.beq l.length n = false by cases hb : Nat.beq l.length n with | false => rfl | true => exact absurd (Nat.eq_of_beq_eq_true hb) h1]; rfl
theorem p_build (call : CallT) (f : Fr AV) (s : St) (z : List AV) (ps : List Part) : exop (.build z ps) call f s = fillV f ps z fun cs => .ok (.agg cs) s := fill_eq f ps z _
noncomputable def vblit (len : Nat) (cs : List AV) (s : St) : R := s.alloc (.cells cs) fun b s => .ok (.sl b 0 len len 0) s
theorem p_blit (call : CallT) (f : Fr AV) (s : St) (len : Nat) (z : List AV) (ps : List Part) : exop (.blit len z ps) call f s = fillV f ps (reps len z) fun cs => vblit len cs s := fill_eq f ps _ _
theorem Sx_blit {s : St} {l : List AO} (hr : Room s) (hl : l.length ≤ 5000) (len : Nat) (cs : List AV) : vblit len cs (Sx s l) = .ok (.sl (nm s l.length) 0 len len 0) (Sx s (l ++ [.cells cs])) := Sx_alloc hr hl _ _
theorem reps_0 {α : Type} (z : List α) : reps 0 z = [] := nd rfl
theorem reps_s {α : Type} (n : Nat) (z : List α) : reps (n + 1) z = z ++ reps n z := by show apd z (reps n z) = _; rw [apd_eq]
theorem one_bool (b : Bool) : (AV.bool b).one = true := nd rfl
theorem one_int (k : IntKind) (n : Int) : (AV.int k n).one = true := nd rfl
theorem one_str (l : List UInt8) : (AV.str l).one = true := nd rfl
theorem one_slv (b : Id) (o l c x : Nat) : (AV.sl b o l c x).one = true := nd rfl
theorem IsSl.one {s : St} {v : AV} (h : IsSl s v) : v.one = true := by cases h <;> rfl
noncomputable def vcell (agg : Bool) (sz : Nat) (p : AV) (s : St) : R := p.onPtr .no (fun b o => vcells (s.obj b) fun cs => wrap1 agg sz (cs.drop o) s) fun _ => .no
theorem vcell_ptr (agg : Bool) (sz : Nat) (b : Id) (o : Nat) (s : St) : vcell agg sz (.ptr b o) s = vcells (s.obj b) fun cs => wrap1 agg sz (cs.drop o) s := nd rfl
def Rl0 : List Res → Fr AV → St → (List AV → Prop) → Prop
  | [], _, _, k => k []
  | .tmp t :: l, f, s, k => Rl0 l f s fun vs => k (t.get f :: vs)
  | .cell t agg sz :: l, f, s, k => onP (vcell agg sz (t.get f) s) fun v _ => Rl0 l f s fun vs => k (v :: vs)
def Rl (l : List Res) (f : Fr AV) (s : St) (k : List AV → Prop) (h : Hold k := .mk) : Prop := Rl0 l f s k
theorem ress_Rl (res : List Res) (f : Fr AV) (s : St) (K : AV → St → Prop) : ∀ (k : List AV → R) (k' : List AV → Prop), (∀ vs, onP (k vs) K = k' vs) → onP (ress f s res k) K = Rl res f s k' := by
  induction res with
  | nil => intro k k' h; exact h []
  | cons r l ih =>
    intro k k' h
    cases r with
    | tmp t => exact ih (fun vs => k (t.get f :: vs)) (fun vs => k' (t.get f :: vs)) (fun vs => h _)
    | cell t agg sz =>
      show onP (((t.get f).onPtr R.no (fun b o => (s.obj b).onCells .no fun cs => wrap1 agg sz (dr o cs) s) fun _ => .no).on .no fun v _ => ress f s l fun vs => k (v :: vs)) K = onP (vcell agg sz (t.get f) s) fun v _ => Rl l f s fun vs => k' (v :: vs)
      have e : ((t.get f).onPtr R.no (fun b o => (s.obj b).onCells .no fun cs => wrap1 agg sz (dr o cs) s) fun _ => .no) = vcell agg sz (t.get f) s := by simp only [dr_eq]; rfl
      rw [e]
      cases vcell agg sz (t.get f) s with
      | no => rfl
      | ok v s1 => exact ih (fun vs => k (v :: vs)) (fun vs => k' (v :: vs)) (fun vs => h _)
theorem Rs_l (K : AV → St → Prop) (res : List Res) (f : Fr AV) (s : St) : Rs K res f s = Rl res f s fun vs => K (pack vs) s := ress_Rl res f s K _ _ (fun vs => rfl)
theorem Rl_nil (f : Fr AV) (s : St) (k : List AV → Prop) : Rl [] f s k = k [] := nd rfl
theorem Rl_tmp (t : Sl) (l : List Res) (f : Fr AV) (s : St) (k : List AV → Prop) : Rl (.tmp t :: l) f s k = Rl l f s fun vs => k (t.get f :: vs) := nd rfl
theorem Rl_cell (t : Sl) (agg : Bool) (sz : Nat) (l : List Res) (f : Fr AV) (s : St) (k : List AV → Prop) : Rl (.cell t agg sz :: l) f s k = onP (vcell agg sz (t.get f) s) fun v _ => Rl l f s fun vs => k (v :: vs) := nd rfl
theorem pack_1 (a : AV) : pack [a] = a := nd rfl
theorem pack_2 (a b : AV) : pack [a, b] = .tup [a, b] := nd rfl
theorem pack_3 (a b c : AV) : pack [a, b, c] = .tup [a, b, c] := nd rfl
theorem vcells_ext (o : AO) {k k' : List AV → R} (h : ∀ l, k l = k' l) : vcells o k = vcells o k' := by
  have : k = k' := funext h
  rw [this]
theorem layV_ext (a : AV) {k k' : List AV → R} (h : ∀ l, k l = k' l) : layV a k = layV a k' := by
  have : k = k' := funext h
  rw [this]
theorem vstore_ptr (sz : Nat) (b : Id) (o : Nat) (a : AV) (s : St) : vstore sz (.ptr b o) a s = vcells (s.obj b) fun cs => layV a fun l => if l.length = sz ∧ o + sz ≤ cs.length then .ok undef (s.put b (.cells (splice o l cs))) else .no := by
  show vcells (s.obj b) (fun cs => a.lay fun l => br (Nat.beq l.length sz) (br (Nat.ble (o + sz) cs.length) (.ok undef (s.put b (.cells (splice o l cs)))) .no) .no) = _
  refine vcells_ext _ fun cs => ?_
  refine layV_ext a (k := fun l => br (Nat.beq l.length sz) (br (Nat.ble (o + sz) cs.length) (.ok undef (s.put b (.cells (splice o l cs)))) .no) .no) fun l => ?_
  by_cases h1 : l.length = sz
  · by_cases h2 : o + sz ≤ cs.length
    · rw [if_pos ⟨h1, h2⟩, show Nat.beq l.length sz = true by rw [h1]; exact Nat.beq_refl sz, show Nat.ble (o + sz) cs.length = true by rw [Nat.ble_eq]; exact h2]; rfl
    · rw [if_neg (fun h => h2 h.2), show Nat.ble (o + sz) cs.length = false by rw [← Bool.not_eq_true, Nat.ble_eq]; exact h2]; cases Nat.beq l.length sz <;> rfl
  · rw [if_neg (fun h => h1 h.1), show Nat.beq l.length sz = false by cases hb : Nat.beq l.length sz with | false => rfl | true => exact absurd (Nat.eq_of_beq_eq_true hb) h1]; rfl
attribute [go_sem] vstore_ptr p_new Sx_vnew Sx_objD Sx_put Sx_box Sx_blit splice_whole splice_one layV_one one_bool one_int one_str one_slv
attribute [go_sem] List.length_cons List.length_nil List.cons_append List.nil_append List.set_cons_succ List.set_cons_zero List.getElem?_cons_succ List.getElem?_cons_zero Option.getD_some List.take_succ_cons List.take_zero and_self and_true true_and decide_eq_true_eq Bool.false_eq_true wrap1_agg
attribute [go_sem] Rs_l Rl_nil Rl_tmp Rl_cell pack_1 pack_2 pack_3 vcell_ptr p_store p_build p_blit fillV_nil fillV_cons layV_agg reps_0 reps_s
theorem settled_bool {s s0 : St} {a b : Bool} (h : Ext s s0) (e : a = b) : Settled s (.bool a) s0 (.bool b) s := by rw [e]; exact settled_flat h rfl
theorem settled_int {s s0 : St} {k : IntKind} {a b : Int} (h : Ext s s0) (e : a = b) : Settled s (.int k a) s0 (.int k b) s := by rw [e]; exact settled_flat h rfl
end Go.Vm
namespace Go.Vm
set_option linter.unusedVariables false
variable {P : Program}
theorem Room.Sx {s : St} {l : List AO} (hr : Room s) (hl : s.n.val + l.length ≤ 1000060000) (hl' : l.length ≤ 5000) : Room (Sx s l) := by
  refine ⟨Nat.zero_le _, fun b hb => ?_⟩
  rw [Sx_n hr hl'] at hb
  show (l.foldl St.push s).obj b = _
  rw [foldl_obj l s, if_neg (by omega), dif_neg (by omega)]
  exact hr.clean b (by omega)
theorem Room.sx {s : St} {l : List AO} (hr : Room s) (hl' : l.length ≤ 5000) : Room (Vm.Sx s l) := by
  refine ⟨Nat.zero_le _, fun b hb => ?_⟩
  rw [Sx_n hr hl'] at hb
  show (l.foldl St.push s).obj b = _
  rw [foldl_obj l s, if_neg (by omega), dif_neg (by omega)]
  exact hr.clean b (by omega)
noncomputable def flushS : List Pd → St → St
  | [], s => s
  | p :: l, s => flushS l (s.put p.b p.o)
theorem flushS_eq (l : List Pd) : ∀ (h : Tab AO) (n : Id), flushS l (.mk h n) = .mk (flush l h) n := by
  induction l with
  | nil => intro h n; rfl
  | cons p l ih => intro h n; exact ih _ n
noncomputable def Wd (call : CallT) (l : List DR) (K : Fr AV → St → Prop) (b : Id) (f : Fr AV) (s : St) (ps : List Pd) (rs : List Rd) (ws : List Wr) (h : Hold K := .mk) : Prop := onC (exdraw call l b f s.h s.n ps rs ws) K (fun _ _ _ => False) fun _ _ => False
theorem St.eta' (s : St) : St.mk s.h s.n = s := by cases s; rfl
theorem like_self : ∀ (n : Nat), (∀ a : AV, SizeOf.sizeOf a ≤ n → like a a = true) ∧ (∀ l : List AV, SizeOf.sizeOf l ≤ n → like.likes l l = true) := by
  intro n
  induction n with
  | zero =>
    refine ⟨fun a h => ?_, fun l h => ?_⟩
    · cases a <;> simp at h
    · cases l <;> simp at h
  | succ n ih =>
    refine ⟨fun a h => ?_, fun l h => ?_⟩
    · cases a with
      | int k i => simp [like, (keq_iff k k).mpr rfl]
      | tp l => simp only [like]; exact ih.2 l (by simp at h; omega)
      | ts l _ _ _ => simp only [like, ih.2 l (by simp at h; omega)]; simp
      | agg l => simp only [like]; exact ih.2 l (by simp at h; omega)
      | tup l => simp only [like]; exact ih.2 l (by simp at h; omega)
      | fn f a b => simp only [like, ih.2 a (by simp at h; omega), ih.2 b (by simp at h; omega)]; simp
      | ifc t a => simp only [like, ih.1 a (by simp at h; omega)]; simp
      | _ => simp [like]
    · cases l with
      | nil => rfl
      | cons a l => simp only [like.likes, ih.1 a (by simp at h; omega), ih.2 l (by simp at h; omega)]; rfl
noncomputable def keepP (pre : Nat) (y : Bool) : List Pd → List Pd
  | [] => []
  | p :: l => if bit pre p.i = y then p :: keepP pre y l else keepP pre y l
theorem keepP_t (pre : Nat) (l : List Pd) : l.filter (fun p => bit pre p.i) = keepP pre true l := by
  induction l with
  | nil => rfl
  | cons p l ih => simp only [List.filter_cons, keepP, ih]
theorem keepP_f (pre : Nat) (l : List Pd) : l.filter (fun p => !bit pre p.i) = keepP pre false l := by
  induction l with
  | nil => rfl
  | cons p l ih => simp only [List.filter_cons, keepP, ih]; cases bit pre p.i <;> rfl
section
variable {call : CallT} {K : Fr AV → St → Prop} {b : Id} {f : Fr AV} {s : St} {ps : List Pd} {rs : List Rd} {ws : List Wr}
theorem Wd_nil : Wd call [] K b f s ps rs ws = K f (flushS ps s) := by
  show K f (.mk (flush ps s.h) s.n) = _
  rw [← flushS_eq, St.eta']
variable {b' : Id} (hb : b.up (none : Option Id) some = some b') (i pre : Nat) (o : CR) (l : List DR)
include hb
theorem up_of {β : Type} (n : β) (k : Id → β) : b.up n k = k b' := by
  rcases Id.up_cases b with h | ⟨y, hy, h⟩
  · rw [h] at hb; cases hb
  · rw [h] at hb; cases hb; exact h _ _
end
section
variable {call : CallT} {K : Fr AV → St → Prop} {f : Fr AV} {s : St} {l : List AO} {ps : List Pd} {rs : List Rd} {ws : List Wr} (hr : Room s)
include hr
theorem nm_up {k : Nat} (hk : k < 5000) : (nm s k).up (none : Option Id) some = some (nm s (k + 1)) := by
  obtain ⟨y, hy, h⟩ := Id.up_all (nm s k)
  rw [h]
  congr 1
  apply Id.val_inj
  rw [hy, nm_val hr (by omega), nm_val hr (by omega)]; rfl
theorem ups_nm (m : Nat) (k : Id → RC) : ∀ (j : Nat), j + m ≤ 5000 → ups m (nm s j) k = k (nm s (j + m)) := by
  induction m with
  | zero => intro j _; rfl
  | succ m ih =>
    intro j hj
    show (nm s j).up .no (fun n => ups m n k) = _
    rw [up_of (nm_up hr (k := j) (by omega)), ih (j + 1) (by omega)]
    congr 2; omega
theorem Sx_dead {k : Nat} (hl : l.length + k ≤ 5000) : St.mk (Sx s l).h (nm s (l.length + k)) = Sx s (l ++ List.replicate k .dead) := by
  have hlen : (l ++ List.replicate k AO.dead).length = l.length + k := by simp
  refine St.ext' (by rw [Sx_n' hr (by omega), hlen]; rfl) (fun b => ?_)
  show (Sx s l).obj b = _
  have hR := hr.n
  show (l.foldl St.push s).obj b = ((l ++ List.replicate k AO.dead).foldl St.push s).obj b
  rw [foldl_obj l s, foldl_obj _ s]
  by_cases h1 : b.val < s.n.val
  · rw [if_pos h1, if_pos h1]
  · rw [if_neg h1, if_neg h1]
    have hc := hr.clean b (by omega)
    by_cases h2 : b.val - s.n.val < l.length
    · rw [dif_pos h2, dif_pos (by omega), List.getElem_append_left h2]
    · rw [dif_neg h2]
      by_cases h3 : b.val - s.n.val < (l ++ List.replicate k AO.dead).length
      · rw [dif_pos h3, hc, List.getElem_append_right (by omega), List.getElem_replicate]
      · rw [dif_neg h3]
theorem W_drawn {n : Fr AV → St → Prop} {e : Nat → Fr AV → St → Prop} {r : Fr AV → St → Prop} (ops : List DR) (hl : l.length + ops.length ≤ 5000) (h : Wd call ops n (nm s l.length) f (Sx s (l ++ List.replicate ops.length .dead)) [] [] []) : W call (.drawn ops) n e r f (Sx s l) := by
  refine ⟨0, ?_⟩
  show onC (ups ops.length (Sx s l).n fun n => exdraw call ops (Sx s l).n f (Sx s l).h n [] [] []) n e r
  rw [Sx_n' hr (by omega), ups_nm hr _ _ _ hl]
  have h' : onC (exdraw call ops (nm s l.length) f (Sx s (l ++ List.replicate ops.length .dead)).h (Sx s (l ++ List.replicate ops.length .dead)).n [] [] []) n (fun _ _ _ => False) fun _ _ => False := h
  rw [← Sx_dead hr hl] at h'
  exact onC_mono (fun _ _ h => h) (fun _ _ _ h => h.elim) (fun _ _ h => h.elim) h'
end
end Go.Vm
namespace Go.Vm
set_option linter.unusedVariables false
variable {P : Program}
noncomputable def onPe (r : R) (alt : Prop) (K : AV → St → Prop) (h : Hold3 alt K K := .mk) : Prop := R.rec alt K r
theorem onPe_ok (v : AV) (s : St) (alt : Prop) (K : AV → St → Prop) : onPe (.ok v s) alt K = K v s := nd rfl
theorem onP_ext (r : R) {K K' : AV → St → Prop} (h : ∀ v t, K v t = K' v t) : onP r K = onP r K' := by
  have : K = K' := by funext v t; exact h v t
  rw [this]
section
variable {call : CallT} {K : Fr AV → St → Prop} {f : Fr AV} {s σ : St} {ps : List Pd} {rs : List Rd} {ws : List Wr} (hr : Room s) {k : Nat} (hk : k < 5000) (i pre : Nat) (l : List DR)
include hr hk
theorem Wd_eq (d : CD) (op : COp) (g : CG) (kd : Kind) : Wd call (.mk i pre kd (.mk d op g) :: l) K (nm s k) f σ ps rs ws = onC (br (wanted g f) (exkind call (exdraw call l (nm s (k + 1))) i pre d op (nm s k) f σ.h σ.n ps rs ws kd) (exdraw call l (nm s (k + 1)) (putD d undef f) σ.h σ.n ps rs ws)) K (fun _ _ _ => False) fun _ _ => False := by
  show onC ((nm s k).up .no fun b' => br (wanted g f) (exkind call (exdraw call l b') i pre d op (nm s k) f σ.h σ.n ps rs ws kd) (exdraw call l b' (putD d undef f) σ.h σ.n ps rs ws)) K _ _ = _
  rw [up_of (nm_up hr hk)]
theorem Wd_q0 (d : CD) (op : COp) : Wd call (.mk i pre .quiet (.mk d op .none) :: l) K (nm s k) f σ ps rs ws = onP (exop op noCall f .empty) fun v _ => Wd call l K (nm s (k + 1)) (putD d v f) σ ps rs ws := by
  rw [Wd_eq hr hk]
  show onC ((exop op noCall f .empty).on .no _) K _ _ = _
  rw [onC_on]; rfl
theorem Wd_q (d : Nat) (op : COp) : Wd call (.mk i pre .quiet (oo d op) :: l) K (nm s k) f σ ps rs ws = onP (exop op noCall f .empty) fun v _ => Wd call l K (nm s (k + 1)) ((vv d).set v f) σ ps rs ws := Wd_q0 hr hk i pre l _ op
theorem Wd_qm (d m : Nat) : Wd call (.mk i pre .quiet (mm d m) :: l) K (nm s k) f σ ps rs ws = Wd call l K (nm s (k + 1)) ((vv d).set ((vv m).get f) f) σ ps rs ws := Wd_q0 hr hk i pre l _ _
theorem Wd_qg (d : Nat) (op : COp) (g : Nat) (b : Bool) : Wd call (.mk i pre .quiet (og d op g b) :: l) K (nm s k) f σ ps rs ws = onG ((vv g).get f) b (onP (exop op noCall f .empty) fun v _ => Wd call l K (nm s (k + 1)) ((vv d).set v f) σ ps rs ws) (Wd call l K (nm s (k + 1)) ((vv d).set undef f) σ ps rs ws) := by
  unfold og
  rw [Wd_eq hr hk]
  show onC (br (((vv g).get f).onBool false fun t => br b t (br t false true)) _ _) K _ _ = br _ _ _
  cases (((vv g).get f).onBool false fun t => br b t (br t false true)) with
  | true =>
    show onC ((exop op noCall f .empty).on .no _) K _ _ = _
    rw [onC_on]; rfl
  | false => rfl
theorem Wd_r (d : Nat) (op : COp) : Wd call (.mk i pre .read (oo d op) :: l) K (nm s k) f σ ps rs ws = onPe (exop op noCall f σ) (onP (exop op noCall f (flushS (keepP pre true ps) (.mk (.rep .dead) σ.n))) fun v _ => Wd call l K (nm s (k + 1)) ((vv d).set v f) σ ps (⟨i, f, op, v⟩ :: rs) ws) fun v _ => writesOk pre σ.n f op v ws = true ∧ Wd call l K (nm s (k + 1)) ((vv d).set v f) σ ps (⟨i, f, op, v⟩ :: rs) ws := by
  unfold oo
  rw [Wd_eq hr hk]
  show onC ((exop op noCall f (.mk σ.h σ.n)).on ((exop op noCall f (.mk (flush (ps.filter fun p => bit pre p.i) (.rep .dead)) σ.n)).on .no _) _) K _ _ = _
  rw [St.eta', keepP_t, show (St.mk (flush (keepP pre true ps) (.rep .dead)) σ.n) = flushS (keepP pre true ps) (.mk (.rep .dead) σ.n) by rw [← flushS_eq]]
  cases exop op noCall f σ with
  | no =>
    show onC ((exop op noCall f (flushS (keepP pre true ps) (.mk (.rep .dead) σ.n))).on .no _) K _ _ = onP _ _
    rw [onC_on]; rfl
  | ok v t =>
  show onC (br (writesOk pre σ.n f op v ws) _ _) K _ _ = (writesOk pre σ.n f op v ws = true ∧ _)
  apply propext
  cases writesOk pre σ.n f op v ws with
  | true => exact ⟨fun h => ⟨rfl, h⟩, fun h => h.2⟩
  | false => exact ⟨fun h => h.elim, fun h => by cases h.1⟩
theorem Wd_rg (d : Nat) (op : COp) (g : Nat) (b : Bool) : Wd call (.mk i pre .read (og d op g b) :: l) K (nm s k) f σ ps rs ws = onG ((vv g).get f) b (onPe (exop op noCall f σ) (onP (exop op noCall f (flushS (keepP pre true ps) (.mk (.rep .dead) σ.n))) fun v _ => Wd call l K (nm s (k + 1)) ((vv d).set v f) σ ps (⟨i, f, op, v⟩ :: rs) ws) fun v _ => writesOk pre σ.n f op v ws = true ∧ Wd call l K (nm s (k + 1)) ((vv d).set v f) σ ps (⟨i, f, op, v⟩ :: rs) ws) (Wd call l K (nm s (k + 1)) ((vv d).set undef f) σ ps rs ws) := by
  have e1 := Wd_r (call := call) (K := K) (f := f) (σ := σ) (ps := ps) (rs := rs) (ws := ws) hr hk i pre l d op
  unfold oo at e1
  unfold og
  rw [Wd_eq hr hk] at e1 ⊢
  show onC (br (((vv g).get f).onBool false fun t => br b t (br t false true)) _ _) K _ _ = br _ _ _
  cases (((vv g).get f).onBool false fun t => br b t (br t false true)) with
  | true => exact e1
  | false => rfl
theorem Wd_a (d : Nat) (op : COp) : Wd call (.mk i pre .alloc (oo d op) :: l) K (nm s k) f σ ps rs ws = onP (exop op noCall f (.mk (.rep .dead) (nm s k))) fun v t => Wd call l K (nm s (k + 1)) ((vv d).set v f) σ (⟨i, nm s k, t.obj (nm s k)⟩ :: ps) rs ws := by
  unfold oo
  rw [Wd_eq hr hk]
  show onC ((exop op noCall f (.mk (.rep .dead) (nm s k))).on .no _) K _ _ = _
  rw [onC_on]; rfl
theorem Wd_ag (d : Nat) (op : COp) (g : Nat) (b : Bool) : Wd call (.mk i pre .alloc (og d op g b) :: l) K (nm s k) f σ ps rs ws = onG ((vv g).get f) b (onP (exop op noCall f (.mk (.rep .dead) (nm s k))) fun v t => Wd call l K (nm s (k + 1)) ((vv d).set v f) σ (⟨i, nm s k, t.obj (nm s k)⟩ :: ps) rs ws) (Wd call l K (nm s (k + 1)) ((vv d).set undef f) σ ps rs ws) := by
  have e1 := Wd_a (call := call) (K := K) (f := f) (σ := σ) (ps := ps) (rs := rs) (ws := ws) hr hk i pre l d op
  unfold oo at e1
  unfold og
  rw [Wd_eq hr hk] at e1 ⊢
  show onC (br (((vv g).get f).onBool false fun t => br b t (br t false true)) _ _) K _ _ = br _ _ _
  cases (((vv g).get f).onBool false fun t => br b t (br t false true)) with
  | true => exact e1
  | false => rfl
theorem Wd_m0 (d : CD) (op : COp) : Wd call (.mk i pre .mut (.mk d op .none) :: l) K (nm s k) f σ ps rs ws = (allPre pre (ws.map (·.i)) = true ∧ onP (exop op call f (flushS (keepP pre true ps) σ)) fun v t => readsOk pre t.h t.n rs = true ∧ Wd call l K (nm s (k + 1)) (putD d v f) t (keepP pre false ps) rs (⟨i, σ.h⟩ :: ws)) := by
  rw [Wd_eq hr hk]
  show onC (br (allPre pre (ws.map (·.i))) ((exop op call f (.mk (flush (ps.filter fun p => bit pre p.i) σ.h) σ.n)).on .no fun v t => br (readsOk pre t.h t.n rs) (exdraw call l (nm s (k + 1)) (putD d v f) t.h t.n (ps.filter fun p => !bit pre p.i) rs (⟨i, σ.h⟩ :: ws)) .no) .no) K _ _ = _
  rw [keepP_t, keepP_f, ← flushS_eq, St.eta']
  apply propext
  cases allPre pre (ws.map (·.i)) with
  | false => exact ⟨fun h => h.elim, fun h => by cases h.1⟩
  | true =>
    show onC ((exop op call f (flushS (keepP pre true ps) σ)).on .no _) K _ _ ↔ _
    rw [onC_on]
    have e : ∀ v t, onC (br (readsOk pre t.h t.n rs) (exdraw call l (nm s (k + 1)) (putD d v f) t.h t.n (keepP pre false ps) rs (⟨i, σ.h⟩ :: ws)) .no) K (fun _ _ _ => False) (fun _ _ => False) = (readsOk pre t.h t.n rs = true ∧ Wd call l K (nm s (k + 1)) (putD d v f) t (keepP pre false ps) rs (⟨i, σ.h⟩ :: ws)) := by
      intro v t
      apply propext
      cases readsOk pre t.h t.n rs with
      | true => exact ⟨fun h => ⟨rfl, h⟩, fun h => h.2⟩
      | false => exact ⟨fun h => h.elim, fun h => by cases h.1⟩
    rw [onP_ext _ e]; exact ⟨fun h => ⟨rfl, h⟩, fun h => h.2⟩
theorem Wd_m (d : Nat) (op : COp) : Wd call (.mk i pre .mut (oo d op) :: l) K (nm s k) f σ ps rs ws = (allPre pre (ws.map (·.i)) = true ∧ onP (exop op call f (flushS (keepP pre true ps) σ)) fun v t => readsOk pre t.h t.n rs = true ∧ Wd call l K (nm s (k + 1)) ((vv d).set v f) t (keepP pre false ps) rs (⟨i, σ.h⟩ :: ws)) := Wd_m0 hr hk i pre l _ op
theorem Wd_mn (op : COp) : Wd call (.mk i pre .mut (on op) :: l) K (nm s k) f σ ps rs ws = (allPre pre (ws.map (·.i)) = true ∧ onP (exop op call f (flushS (keepP pre true ps) σ)) fun v t => readsOk pre t.h t.n rs = true ∧ Wd call l K (nm s (k + 1)) f t (keepP pre false ps) rs (⟨i, σ.h⟩ :: ws)) := Wd_m0 hr hk i pre l .none op
theorem Wd_mg (d : Nat) (op : COp) (g : Nat) (b : Bool) : Wd call (.mk i pre .mut (og d op g b) :: l) K (nm s k) f σ ps rs ws = onG ((vv g).get f) b (allPre pre (ws.map (·.i)) = true ∧ onP (exop op call f (flushS (keepP pre true ps) σ)) fun v t => readsOk pre t.h t.n rs = true ∧ Wd call l K (nm s (k + 1)) ((vv d).set v f) t (keepP pre false ps) rs (⟨i, σ.h⟩ :: ws)) (Wd call l K (nm s (k + 1)) ((vv d).set undef f) σ ps rs ws) := by
  have e1 := Wd_m (call := call) (K := K) (f := f) (σ := σ) (ps := ps) (rs := rs) (ws := ws) hr hk i pre l d op
  unfold oo at e1
  unfold og
  rw [Wd_eq hr hk] at e1 ⊢
  show onC (br (((vv g).get f).onBool false fun t => br b t (br t false true)) _ _) K _ _ = br _ _ _
  cases (((vv g).get f).onBool false fun t => br b t (br t false true)) with
  | true => exact e1
  | false => rfl
end
theorem bit_def (m i : Nat) : bit m i = ((1 &&& (m >>> i)) != 0) := nd rfl
theorem again_P (h : Tab AO) (n : Id) (f : Fr AV) (op : COp) (v : AV) : (again h n f op v = true) = onP (exop op noCall f (.mk h n)) fun u _ => like u v = true := by
  unfold again
  cases exop op noCall f (.mk h n) with
  | no => exact propext ⟨fun h => Bool.noConfusion h, fun h => False.elim h⟩
  | ok u s => rfl
theorem readsOk_nil (pre : Nat) (h : Tab AO) (n : Id) : readsOk pre h n [] = true := nd rfl
theorem readsOk_P (pre : Nat) (h : Tab AO) (n : Id) (i : Nat) (f : Fr AV) (op : COp) (v : AV) (l : List Rd) : (readsOk pre h n (⟨i, f, op, v⟩ :: l) = true) = ((if bit pre i = true then True else again h n f op v = true) ∧ readsOk pre h n l = true) := by
  simp only [readsOk]
  cases bit pre i <;> simp
theorem writesOk_nil (pre : Nat) (n : Id) (f : Fr AV) (op : COp) (v : AV) : writesOk pre n f op v [] = true := nd rfl
theorem writesOk_P (pre : Nat) (n : Id) (f : Fr AV) (op : COp) (v : AV) (i : Nat) (h : Tab AO) (l : List Wr) : (writesOk pre n f op v (⟨i, h⟩ :: l) = true) = ((if bit pre i = true then True else again h n f op v = true) ∧ writesOk pre n f op v l = true) := by
  simp only [writesOk]
  cases bit pre i <;> simp
theorem allPre_nil (pre : Nat) : allPre pre [] = true := nd rfl
theorem allPre_P (pre i : Nat) (l : List Nat) : (allPre pre (i :: l) = true) = (bit pre i = true ∧ allPre pre l = true) := by simp [allPre]
theorem like_self' (v : AV) : like v v = true := (like_self (SizeOf.sizeOf v)).1 v (Nat.le_refl _)
theorem keepP_nil (pre : Nat) (y : Bool) : keepP pre y [] = [] := nd rfl
theorem keepP_cons (pre : Nat) (y : Bool) (i : Nat) (b : Id) (o : AO) (l : List Pd) : keepP pre y (⟨i, b, o⟩ :: l) = if bit pre i = y then ⟨i, b, o⟩ :: keepP pre y l else keepP pre y l := nd rfl
theorem flushS_nil (s : St) : flushS [] s = s := nd rfl
theorem flushS_cons (i : Nat) (b : Id) (o : AO) (l : List Pd) (s : St) : flushS (⟨i, b, o⟩ :: l) s = flushS l (s.put b o) := nd rfl
noncomputable def al (b : Id) (o : AO) : St := (St.mk (.rep .dead) b).push o
theorem al_obj (b : Id) (o : AO) : (al b o).obj b = o := push_self (.mk (.rep .dead) b) o
section
variable {b : Id}
theorem al_new (z : List AV) : vnew z (.mk (.rep .dead) b) = .ok (.ptr b 0) (al b (.cells z)) := by
  show (St.mk (.rep .dead) b).alloc (.cells z) (fun b s => .ok (.ptr b 0) s) = _
  rw [alloc_push]; rfl
theorem al_blit (len : Nat) (cs : List AV) : vblit len cs (.mk (.rep .dead) b) = .ok (.sl b 0 len len 0) (al b (.cells cs)) := by
  show (St.mk (.rep .dead) b).alloc (.cells cs) (fun b s => .ok (.sl b 0 len len 0) s) = _
  rw [alloc_push]; rfl
end
theorem ext_nil (s : St) : Ext s (Sx s []) := Ext.refl s
theorem ext_self (s : St) : Ext s s := Ext.refl s
attribute [go_sem] onPe_ok ext_nil ext_self eq_self
attribute [go_sem] Wd_nil Wd_q Wd_qm Wd_qg Wd_r Wd_rg Wd_a Wd_ag Wd_m Wd_mn Wd_mg bit_def again_P readsOk_nil readsOk_P writesOk_nil writesOk_P allPre_nil allPre_P like_self' keepP_nil keepP_cons flushS_nil flushS_cons al_obj al_new al_blit St.eta' List.map_cons List.map_nil List.replicate_succ List.replicate_zero
end Go.Vm
namespace Go.Vm
set_option linter.unusedVariables false
variable {P : Program}
noncomputable def vapp (sz bytes : Nat) (x y : AV) (s : St) : R :=
  srcOf s sz y fun n new =>
  x.onSl .no
    (br (Nat.beq n 0) (.ok .nils s) (grown s sz bytes n new))
    (fun b o len cap ex => (s.obj b).onCells .no fun cs => br (Nat.ble (Nat.add o (Nat.mul cap sz)) (ln cs))
      (br (Nat.ble (Nat.add len n) cap) (.ok (.sl b o (Nat.add len n) cap ex) (s.put b (.cells (splice (Nat.add o (Nat.mul len sz)) new cs))))
        (br (Nat.beq ex 0) (grown s sz bytes (Nat.add len n) (apd (tk (Nat.mul len sz) (dr o cs)) new))
          (br (Nat.beq ex sz) (grown (s.put b .dead) sz bytes (Nat.add len n) (apd (tk (Nat.mul len sz) (dr o cs)) new)) .no))) .no)
    fun cs len cap ex => br (Nat.beq n 0) (.ok x s)
      (br ex (br (Nat.ble (Nat.succ cap) (Nat.add len n)) (br (Nat.beq (ln cs) (Nat.mul len sz)) (grown s sz bytes (Nat.add len n) (apd cs new)) .no) .no) .no)
theorem p_app (call : CallT) (f : Fr AV) (s : St) (sz bytes : Nat) (x y : CO) : exop (.app sz bytes x y) call f s = vapp sz bytes (ev1 f x) (ev1 f y) s := nd rfl
theorem ble_t {a b : Nat} (h : a ≤ b) : Nat.ble a b = true := by rw [Nat.ble_eq]; exact h
theorem ble_f {a b : Nat} (h : b < a) : Nat.ble a b = false := by rw [← Bool.not_eq_true, Nat.ble_eq]; omega
theorem beq_t (a : Nat) : Nat.beq a a = true := Nat.beq_refl a
theorem beq_f {a b : Nat} (h : a ≠ b) : Nat.beq a b = false := by cases hb : Nat.beq a b with | false => rfl | true => exact absurd (Nat.eq_of_beq_eq_true hb) h
theorem srcOf_sl {s : St} {sz : Nat} {y : AV} (hy : IsSl s y) (hrow : lenOf y * sz ≤ (rowOf s y).length) (k : Nat → List AV → R) : srcOf s sz y k = k (lenOf y) ((rowOf s y).take (lenOf y * sz)) := by
  cases hy with
  | nils => show k 0 [] = k 0 (List.take (0 * sz) []); simp
  | ts cs len cap ex hm ho =>
    show br (Nat.ble (Nat.mul len sz) (ln cs)) (k len (tk (Nat.mul len sz) cs)) .no = k len (cs.take (len * sz))
    have h : len * sz ≤ cs.length := hrow
    rw [ln_eq, tk_eq, show Nat.mul len sz = len * sz from rfl, ble_t h]; rfl
  | sl b o len cap ex cs hm h hb hoo =>
    have hrow' : len * sz ≤ ((s.obj b).row.drop o).length := hrow
    show (s.obj b).onCells R.no (fun cs => br (Nat.ble (Nat.add o (Nat.mul len sz)) (ln cs)) (k len (tk (Nat.mul len sz) (dr o cs))) .no) = k len (((s.obj b).row.drop o).take (len * sz))
    rw [h] at hrow' ⊢
    have h1 : len * sz ≤ (cs.drop o).length := hrow'
    rw [List.length_drop] at h1
    show br (Nat.ble (o + len * sz) (ln cs)) (k len (tk (len * sz) (dr o cs))) .no = k len ((cs.drop o).take (len * sz))
    rw [ln_eq, tk_eq, dr_eq, ble_t (by omega)]; rfl
section
variable {s : St} {L : List AO} (hr : Room s) (hl : L.length ≤ 5000)
include hr hl
theorem grown_Sx (sz bytes m : Nat) (cs : List AV) (h1 : m * bytes ≤ limit) (h2 : m ≤ limit) : grown (Sx s L) sz bytes m cs = .ok (.sl (nm s L.length) 0 m m sz) (Sx s (L ++ [.cells cs])) := by
  show br (Nat.ble (m * bytes) limit) (br (Nat.ble m limit) ((Sx s L).alloc (.cells cs) fun b s => .ok (.sl b 0 m m sz) s) .no) .no = _
  rw [ble_t h1, ble_t h2, Sx_alloc hr hl]; rfl
theorem vapp_nils {sz bytes : Nat} {y : AV} (hy : IsSl (Sx s L) y) (hrow : lenOf y * sz ≤ (rowOf (Sx s L) y).length) (hb : lenOf y * bytes ≤ limit) (h0 : lenOf y ≠ 0) :
    vapp sz bytes .nils y (Sx s L) = .ok (.sl (nm s L.length) 0 (lenOf y) (lenOf y) sz) (Sx s (L ++ [.cells ((rowOf (Sx s L) y).take (lenOf y * sz))])) := by
  unfold vapp
  rw [srcOf_sl hy hrow]
  show br (Nat.beq (lenOf y) 0) (R.ok .nils _) (grown _ sz bytes _ _) = _
  rw [beq_f h0, br_false', grown_Sx hr hl _ _ _ _ hb hy.most]
theorem vapp_lit {sz bytes i : Nat} {y : AV} (hi : L[i]? = some (.cells [])) (hy : IsSl (Sx s L) y) (hrow : lenOf y * sz ≤ (rowOf (Sx s L) y).length) (hb : lenOf y * bytes ≤ limit) (h0 : lenOf y ≠ 0) :
    vapp sz bytes (.sl (nm s i) 0 0 0 0) y (Sx s L) = .ok (.sl (nm s L.length) 0 (lenOf y) (lenOf y) sz) (Sx s (L ++ [.cells ((rowOf (Sx s L) y).take (lenOf y * sz))])) := by
  unfold vapp
  rw [srcOf_sl hy hrow]
  show ((Sx s L).obj (nm s i)).onCells R.no _ = _
  rw [Sx_obj? hr hl hi]
  show br (Nat.ble (0 + 0 * sz) (ln ([] : List AV))) (br (Nat.ble (0 + lenOf y) 0) _ (br true (grown _ sz bytes (0 + lenOf y) (apd (tk (0 * sz) (dr 0 [])) _)) _)) .no = _
  rw [ble_t (by simp [ln_eq]), ble_f (by omega), br_true', br_false', br_true', tk_eq, dr_eq, apd_eq, Nat.zero_add, Nat.zero_mul]
  show grown (Sx s L) sz bytes (lenOf y) ([] ++ _) = _
  rw [List.nil_append, grown_Sx hr hl _ _ _ _ hb hy.most]
theorem vapp_lit0 {sz bytes i : Nat} {y : AV} (hi : L[i]? = some (.cells [])) (hy : IsSl (Sx s L) y) (hrow : lenOf y * sz ≤ (rowOf (Sx s L) y).length) (h0 : lenOf y = 0) :
    vapp sz bytes (.sl (nm s i) 0 0 0 0) y (Sx s L) = .ok (.sl (nm s i) 0 0 0 0) (Sx s L) := by
  have hlt := (List.getElem?_eq_some_iff.mp hi).1
  unfold vapp
  rw [srcOf_sl hy hrow]
  show ((Sx s L).obj (nm s i)).onCells R.no _ = _
  rw [Sx_obj? hr hl hi]
  show br (Nat.ble (0 + 0 * sz) (ln ([] : List AV))) (br (Nat.ble (0 + lenOf y) 0) (R.ok (.sl (nm s i) 0 (0 + lenOf y) 0 0) ((Sx s L).put (nm s i) (.cells (splice (0 + 0 * sz) _ [])))) _) .no = _
  rw [ble_t (by simp [ln_eq]), h0, Nat.zero_mul, List.take_zero, Sx_put hr hl hlt]
  show R.ok (.sl (nm s i) 0 0 0 0) (Sx s (L.set i (.cells []))) = _
  rw [show L.set i (.cells []) = L by
    apply List.ext_getElem?
    intro j
    by_cases e : i = j
    · subst e; rw [List.getElem?_set_self hlt, hi]
    · rw [List.getElem?_set_ne e]]
theorem fz_own {i o len cap ex : Nat} {cs : List AV} (hi : L[i]? = some (.cells cs)) (hc : ∀ c ∈ cs, Ov s.n.val c) : Fz s.n.val (Sx s L) (.sl (nm s i) o len cap ex) (.ts (cs.drop o) len len false) := by
  have hlt := (List.getElem?_eq_some_iff.mp hi).1
  refine .slN (nm s i) o len cap ex cs (cs.drop o) (by rw [nm_val hr (by omega)]; omega) (Sx_obj? hr hl hi) rfl (fun j c d h1 h2 => ?_)
  rw [h1] at h2; cases h2
  exact hc c (List.mem_of_mem_drop (List.mem_of_getElem? h1)) _
end
noncomputable def vnileq (neg : Bool) (k : NK) (a b : AV) (s : St) : R :=
  NK.rec (motive := fun _ => R) (nilNeq neg .sl a b s) (nilNeq neg .ptr a b s) (nilNeq neg .map a b s) (nilNeq neg .fn a b s) (nilNeq neg .ifc a b s) (fun c => aggNeq neg c a b s) k
theorem p_nileq (call : CallT) (f : Fr AV) (s : St) (neg : Bool) (k : NK) (x y : CO) : exop (.nileq neg k x y) call f s = vnileq neg k (ev1 f x) (ev1 f y) s := nd rfl
theorem vnileq_nil (s : St) : vnileq false .sl .nils .nils s = .ok (.bool true) s := nd rfl
theorem vnileq_sl {t : St} {v : AV} (h : IsSl t v) (hn : v ≠ .nils) (s : St) : vnileq false .sl v .nils s = .ok (.bool false) s := by
  cases h with
  | nils => exact absurd rfl hn
  | ts => rfl
  | sl => rfl
theorem fzl_nil (n : Nat) (s : St) : ∀ (j : Nat) (c d : AV), ([] : List AV)[j]? = some c → ([] : List AV)[j]? = some d → Fz n s c d := fun j c d h => by simp at h
theorem fzl_cons {n : Nat} {s : St} {a b : AV} {l m : List AV} (h : Fz n s a b) (k : ∀ (j : Nat) (c d : AV), l[j]? = some c → m[j]? = some d → Fz n s c d) : ∀ (j : Nat) (c d : AV), (a :: l)[j]? = some c → (b :: m)[j]? = some d → Fz n s c d := by
  intro j c d hc hd
  cases j with
  | zero => simp at hc hd; subst hc; subst hd; exact h
  | succ j => exact k j c d (by simpa using hc) (by simpa using hd)
attribute [go_sem] p_app p_nileq vnileq_nil
end Go.Vm
namespace Go.Vm
set_option linter.unusedVariables false
noncomputable def strings_IndexByte_B : List AV → St → R
  | [.str l, .int .u8 c], s => .ok (.int .i64 (Lib.indexByte l c.toNat.toUInt8)) s
  | _, _ => .no
noncomputable def vcallv (call : CallT) (g : AV) (l : List AV) (s : St) : R := g.onFn .no fun g a b => call g (apd a (apd l b)) s
theorem p_callv (call : CallT) (f : Fr AV) (s : St) (g : CO) (as : List CO) : exop (.callv g as) call f s = vcallv call (ev1 f g) (evs f as) s := nd rfl
theorem vcallv_fn (call : CallT) (g : Id) (l : List AV) (s : St) : vcallv call (.fn g [] []) l s = call g l s := by
  show call g (apd [] (apd l [])) s = _
  rw [apd_eq, apd_eq, List.nil_append, List.append_nil]
noncomputable def vsshi (a h : AV) (s : St) : R := a.onStr .no fun l => h.idx (l.length + 1) fun h => .ok (.str (l.take h)) s
theorem p_sshi (call : CallT) (f : Fr AV) (s : St) (x h : CO) : exop (.sslice x none (some h)) call f s = vsshi (ev1 f x) (ev1 f h) s := by
  show (ev1 f x).onStr R.no (fun l => bnd (some (ev1 f h)) (ln l) (ln l) fun h => bnd none h 0 fun lo => .ok (.str (dr lo (tk h l))) s) = _
  simp only [ln_eq, dr_eq, tk_eq]; rfl
theorem vsshi_eq {j : IntKind} {l : List UInt8} {i : Int} (h0 : 0 ≤ i) (h1 : i ≤ l.length) (s : St) : vsshi (.str l) (.int j i) s = .ok (.str (l.take i.toNat)) s := idx_eq (j := j) h0 (by omega) fun h => .ok (.str (l.take h)) s
theorem vsidx_n {l : List UInt8} {i : Nat} (h : i < l.length) (j : IntKind) (s : St) : vsidx (.str l) (.int j (i : Int)) s = .ok (.int .u8 ((l[i]).toNat : Int)) s := by
  rw [vsidx_eq s (j := j) (l := l) (i := (i : Int)) (by omega) (by omega)]; simp
theorem vsidx_0 {l : List UInt8} (h : 0 < l.length) (j : IntKind) (s : St) : vsidx (.str l) (.int j 0) s = .ok (.int .u8 ((l[0]).toNat : Int)) s := vsidx_n h j s
attribute [go_sem] p_callv vcallv_fn p_sshi
end Go.Vm
namespace Go.Vm
set_option linter.unusedVariables false
theorem nm_put (s : St) (b : Id) (o : AO) (k : Nat) : nm (s.put b o) k = nm s k := by unfold nm; rw [put_n]
theorem Room.put {s : St} (h : Room s) {b : Id} (hb : b.val < s.n.val) (o : AO) : Room (s.put b o) := ⟨by rw [put_n]; exact h.n, fun c hc => by rw [put_n] at hc; rw [put_ne (by omega)]; exact h.clean c hc⟩
theorem Sx_putO {s : St} {L : List AO} (hr : Room s) (hl : L.length ≤ 5000) {b : Id} (hb : b.val < s.n.val) (o : AO) : (Sx s L).put b o = Sx (s.put b o) L := by
  have hr2 := hr.put hb o
  have hR := hr.n
  refine St.ext' (by rw [put_n, Sx_n' hr hl, Sx_n' hr2 hl, nm_put]) (fun c => ?_)
  rw [St.obj_put]
  show (if c = b then o else (L.foldl St.push s).obj c) = (L.foldl St.push (s.put b o)).obj c
  rw [foldl_obj L s, foldl_obj L (s.put b o), put_n]
  by_cases h : c = b
  · subst h; rw [if_pos rfl, if_pos hb, put_self]
  · have hv : c.val ≠ b.val := fun e => h (Id.val_inj e)
    rw [if_neg h, put_ne hv]
theorem Ext.putO {s s1 : St} (h : Ext s s1) {b : Id} (hb : s.n.val ≤ b.val) (o : AO) : Ext s (s1.put b o) := h.put hb o
theorem vapp_growO {s : St} {L : List AO} (hr : Room s) (hl : L.length ≤ 5000) {sz bytes len : Nat} {b : Id} {y : AV} {cs : List AV} (hb : b.val < s.n.val) (hi : s.obj b = .cells cs) (hc : cs.length = len * sz) (hsz : sz ≠ 0) (hy : IsSl (Sx s L) y) (hrow : lenOf y * sz ≤ (rowOf (Sx s L) y).length) (hby : (len + lenOf y) * bytes ≤ limit) (hm : len + lenOf y ≤ limit) (h0 : lenOf y ≠ 0) :
    vapp sz bytes (.sl b 0 len len sz) y (Sx s L) = .ok (.sl (nm s L.length) 0 (len + lenOf y) (len + lenOf y) sz) (Sx (s.put b .dead) (L ++ [.cells (cs ++ (rowOf (Sx s L) y).take (lenOf y * sz))])) := by
  unfold vapp
  rw [srcOf_sl hy hrow]
  show ((Sx s L).obj b).onCells R.no _ = _
  rw [Sx_old hr hl hb, hi]
  show br (Nat.ble (0 + len * sz) (ln cs)) (br (Nat.ble (len + lenOf y) len) _ (br (Nat.beq sz 0) _ (br (Nat.beq sz sz) (grown ((Sx s L).put b .dead) sz bytes (len + lenOf y) (apd (tk (len * sz) (dr 0 cs)) _)) .no))) .no = _
  rw [ln_eq, ble_t (by omega), ble_f (by omega), beq_f hsz, beq_t, br_true', br_false', br_false', br_true', tk_eq, dr_eq, apd_eq, List.drop_zero, ← hc, List.take_length, Sx_putO hr hl hb, grown_Sx (hr.put hb _) hl _ _ _ _ hby hm, nm_put]
theorem isl_lit {s : St} {L : List AO} (hr : Room s) (hl : L.length ≤ 5000) {i n : Nat} {cs : List AV} (hi : L[i]? = some (.cells cs)) (hn : n ≤ limit) (cap ex : Nat) : IsSl (Sx s L) (.sl (nm s i) 0 n cap ex) ∧ rowOf (Sx s L) (.sl (nm s i) 0 n cap ex) = cs ∧ lenOf (.sl (nm s i) 0 n cap ex) = n := by
  have hlt := (List.getElem?_eq_some_iff.mp hi).1
  refine ⟨.sl _ _ _ _ _ cs hn (Sx_obj? hr hl hi) (by rw [nm_val hr (by omega), Sx_n hr hl]; omega) (by omega), ?_, rfl⟩
  show ((Sx s L).obj (nm s i)).row.drop 0 = cs
  rw [Sx_obj? hr hl hi]; rfl
theorem vapp_one {s : St} {L : List AO} (hr : Room s) (hl : L.length ≤ 5000) {bytes len i : Nat} {b : Id} {a : AV} {cs : List AV} (hb : b.val < s.n.val) (hi : s.obj b = .cells cs) (hc : cs.length = len) (hL : L[i]? = some (.cells [a])) (hby : (len + 1) * bytes ≤ limit) (hm : len + 1 ≤ limit) :
    vapp 1 bytes (.sl b 0 len len 1) (.sl (nm s i) 0 1 1 0) (Sx s L) = .ok (.sl (nm s L.length) 0 (len + 1) (len + 1) 1) (Sx (s.put b .dead) (L ++ [.cells (cs ++ [a])])) := by
  obtain ⟨h1, h2, h3⟩ := isl_lit hr hl hL (n := 1) (by unfold limit; omega) 1 0
  rw [vapp_growO hr hl hb hi (by omega) (by omega) h1 (by rw [h2, h3]; simp) (by rw [h3]; exact hby) (by rw [h3]; exact hm) (by rw [h3]; omega), h2, h3]; rfl
theorem vapp_one0 {s : St} {L : List AO} (hr : Room s) (hl : L.length ≤ 5000) {bytes i : Nat} {a : AV} (hL : L[i]? = some (.cells [a])) (hby : bytes ≤ limit) :
    vapp 1 bytes .nils (.sl (nm s i) 0 1 1 0) (Sx s L) = .ok (.sl (nm s L.length) 0 1 1 1) (Sx s (L ++ [.cells [a]])) := by
  obtain ⟨h1, h2, h3⟩ := isl_lit hr hl hL (n := 1) (by unfold limit; omega) 1 0
  rw [vapp_nils hr hl h1 (by rw [h2, h3]; simp) (by rw [h3]; omega) (by rw [h3]; omega), h2, h3]; rfl
theorem room_put {s : St} {b : Id} {o : AO} (h : Room s) (hb : b.val < s.n.val) : Room (s.put b o) := h.put hb o
attribute [go_sem] room_put put_n
attribute [go_sem] nm_put put_self Sx_putO Sx_old
end Go.Vm
namespace Go.Vm
set_option linter.unusedVariables false
noncomputable def vmksl (bytes : Nat) (z : List AV) (l c : AV) (s : St) : R := l.idx limit fun l => c.idx limit fun c => br (Nat.ble l c) (br (Nat.ble (c * bytes) limit) (s.alloc (.cells (reps c z)) fun b s => .ok (.sl b 0 l c 0) s) .no) .no
theorem p_mksl (call : CallT) (f : Fr AV) (s : St) (bytes : Nat) (z : List AV) (l c : CO) : exop (.mksl bytes z l c) call f s = vmksl bytes z (ev1 f l) (ev1 f c) s := nd rfl
theorem reps_rep {α : Type} (n : Nat) (a : α) : reps n [a] = List.replicate n a := by
  induction n with
  | zero => rfl
  | succ n ih => rw [reps_s, ih]; rfl
theorem vmksl_eq {s : St} {L : List AO} (hr : Room s) (hl : L.length ≤ 5000) {bytes : Nat} {j k : IntKind} {l c : Nat} {a : AV} (h1 : l ≤ c) (h2 : c * bytes ≤ limit) (h3 : c < limit) :
    vmksl bytes [a] (.int j (l : Int)) (.int k (c : Int)) (Sx s L) = .ok (.sl (nm s L.length) 0 l c 0) (Sx s (L ++ [.cells (List.replicate c a)])) := by
  unfold vmksl
  rw [idx_eq (by omega) (by omega), idx_eq (by omega) (by omega)]
  simp only [Int.toNat_natCast]
  rw [ble_t h1, ble_t h2, br_true', br_true', reps_rep, Sx_alloc hr hl]
noncomputable def vslhi (sz : Nat) (x h : AV) (s : St) : R := x.onSl .no
    (bnd none 0 0 fun m => bnd (some h) m 0 fun h => bnd none h 0 fun _ => .ok .nils s)
    (fun b o len cap ex => bnd none cap cap fun m => bnd (some h) m len fun h => bnd none h 0 fun l =>
      br (br (Nat.beq ex 0) true (br false true (Nat.ble (Nat.succ l) cap)))
        (br (br (Nat.beq ex 0) true (br false true (Nat.beq ex sz))) (.ok (.sl b (br (Nat.beq m l) o (Nat.add o (Nat.mul l sz))) (Nat.sub h l) (Nat.sub m l) (br false 0 ex)) s) .no)
        (.ok (.ts [] 0 0 false) s))
    fun cs len cap ex => bnd none cap cap fun m => bnd (some h) (Nat.min m len) len fun h => bnd none h 0 fun l =>
      .ok (.ts (dr (Nat.mul l sz) (tk (Nat.mul h sz) cs)) (Nat.sub h l) (Nat.sub m l) (br ex true false)) s
theorem p_slhi (call : CallT) (f : Fr AV) (s : St) (sz : Nat) (x h : CO) : exop (.slice sz x none (some h) none) call f s = vslhi sz (ev1 f x) (ev1 f h) s := nd rfl
theorem vslhi_eq {sz : Nat} {j : IntKind} {b : Id} {len cap h : Nat} (hh : h ≤ cap) (s : St) : vslhi sz (.sl b 0 len cap 0) (.int j (h : Int)) s = .ok (.sl b 0 h cap 0) s := by
  show (AV.int j (h : Int)).idx (cap + 1) (fun h => R.ok (.sl b (br (Nat.beq cap 0) 0 (Nat.add 0 (Nat.mul 0 sz))) (Nat.sub h 0) (Nat.sub cap 0) 0) s) = _
  rw [idx_eq (by omega) (by omega)]
  simp only [Int.toNat_natCast]
  have e : br (Nat.beq cap 0) 0 (Nat.add 0 (Nat.mul 0 sz)) = 0 := by
    have : Nat.add 0 (Nat.mul 0 sz) = 0 := by show 0 + 0 * sz = 0; omega
    rw [this]; cases Nat.beq cap 0 <;> rfl
  rw [e]; rfl
theorem vlen_sl (b : Id) (o len cap ex : Nat) (s : St) : vlen (.sl b o len cap ex) s = .ok (.int .i64 (len : Int)) s := nd rfl
theorem viaddr_sl {k : IntKind} {b : Id} {o len cap ex i : Nat} (h : i < len) (s : St) : viaddr 1 (.sl b o len cap ex) (.int k (i : Int)) s = .ok (.ptr b (o + i)) s := by
  show (AV.int k (i : Int)).idx len (fun m => R.ok (.ptr b (o + m * 1)) s) = _
  rw [idx_eq (by omega) (by omega)]; simp
theorem wrap1_at {cs : List AV} {i : Nat} {a : AV} (h : cs[i]? = some a) (s : St) : wrap1 false 1 (cs.drop i) s = .ok a s := by
  obtain ⟨h1, h2⟩ := List.getElem?_eq_some_iff.mp h
  rw [List.drop_eq_getElem_cons h1, h2, wrap1_one]
theorem vstore_el {s : St} {b : Id} {i : Nat} {a : AV} {cs : List AV} (ho : s.obj b = .cells cs) (ha : a.one = true) (h2 : i < cs.length) :
    vstore 1 (.ptr b i) a s = .ok undef (s.put b (.cells (cs.set i a))) := by
  show vcells (s.obj b) _ = _
  rw [ho, vcells_cells]
  have key : ∀ k : List AV → R, a.lay k = k [a] := fun k => by cases a <;> first | rfl | cases ha
  rw [key]
  show br (Nat.ble (i + 1) cs.length) (R.ok undef (s.put b (.cells (splice i [a] cs)))) .no = _
  rw [show Nat.ble (i + 1) cs.length = true by rw [Nat.ble_eq]; omega, splice_one]; rfl
noncomputable def true_B : List AV → St → R
  | [], s => .ok (.bool true) s
  | _, _ => .no
attribute [go_sem] p_mksl p_slhi vlen_sl
end Go.Vm
namespace Go.Vm
set_option linter.unusedVariables false
variable {P : Program}
section
variable [Lay]
theorem went_below {s : St} {E : Env} {w w' : World} (rel : Rel s E w) (h : RowKit.Below w.heap.size w w') : Went s E w s E w' := by
  have hle : Le E w E w' := ⟨fun _ h => h, fun _ _ => rfl, fun _ h => h, fun k hk => h.block k (rel.h.seen k hk), .of_old h.block⟩
  exact ⟨⟨rel.n, rel_keep rel.h hle h.block h.size (fun k hk => .inl hk), rel.laid.le hle⟩, Nat.le_refl _, ⟨fun _ h => h, fun _ _ => rfl, fun _ h => .inl h, fun _ h => h, fun _ h => .inl h, h.os, h.tape, h.output, h.size, fun k hk _ => h.block k hk, .of_old h.block, fun b hb => .inl ⟨b, hb, rfl⟩⟩⟩
end
section
variable {L : Lay} {b : Id} {T : TypeId} {n : Nat} {s s' : St} {E E' : Env} {w w' : World}
end
end Go.Vm
namespace Go.Vm
set_option linter.unusedVariables false
variable {P : Program}
structure Ranged2 (P : Program) (nt : Nat) (id4 : Nat) (ops4 : Array Oper) (c0 : List CR) (cd1 : CD) (x : Tmp) : Prop where
  shape : ∃ l0 o1 t kt et, ops4.toList = l0 ++ [o1] ∧ l0.mapM (copR P nt ops4) = some c0 ∧ x < 256 ∧ o1.op = .range t (.tmp x) ∧ P.underlying t = some (.map kt et) ∧ o1.guard = none ∧ copD nt o1.dst = some cd1
structure MapFn0 (P : Program) (g : Nat) where
  fn : Func
  b : Code
  rs : List Res
  hf : P.funcs[g]? = some fn
  hb : fn.body = some b
  hname : fn.name ≠ "runtime.NumGoroutine"
  hrs : fn.results.toList.mapM (copRes P) = some rs
  hnt : fn.ntmps ≤ 256
  T : Turning P fn.ntmps
  pre : List Code
  cpre : List CC
  hpre : pre.mapM (cc P fn.ntmps) = some cpre
  post : Code
  cpost : CC
  hpost : cc P fn.ntmps post = some cpost
  id4 : Nat
  ops4 : Array Oper
  c0 : List CR
  cd1 : CD
  x : Tmp
  hR : Ranged2 P fn.ntmps id4 ops4 c0 cd1 x
  hbody : b = chainCode pre (.seq (.seq (.region id4 ops4 false) (.block T.id0 (.loop T.code))) post)
section
variable {g : Nat} (M : MapFn0 P g) (call : CallT) (n : Nat)
end
noncomputable def pkT (T : Tab (List (List AV × AV))) : Id → List AV → St → Option (List AV × AV) := fun g args s => lookQ (g.get T) args s
theorem pkT_sound [Lay] [Bare] {T : Tab (List (List AV × AV))} (h : ∀ (g : Id) (e : List AV × AV), e ∈ g.get T → Has P g.val ∧ Seen P g.val e.1 e.2) (call : CallT) (hc : SoundCall P call) : SoundCall P (picks (pkT T) call) := by
  refine seen_sound hc (fun g args s en hen => ?_)
  unfold pkT at hen
  rw [lookQ_eq] at hen
  obtain ⟨h1, h2⟩ := look_some hen
  exact ⟨h2, (h g en h1).1, (h g en h1).2⟩
end Go.Vm
