/- A maker of terms. No condition. -/
import Derived.Test.YtfndnjmnakdglaaGreatDoorLibE
import Derived.Test.YtfndnjmnakdglaaGreatDoorVmW
import Derived.Test.YtfndnjmnakdglaaGreatDoorLibH
namespace Go.Vm
set_option linter.unusedVariables false
noncomputable def ids (a : AV) : List Id := a.onSl [] [] (fun b _ _ _ _ => [b]) (fun _ _ _ _ => [])
theorem St.lt_of_obj {σ : St} (hr : Room σ) {i : Id} {cs : List AV} (h : σ.obj i = .cells cs) : i.val < σ.n.val := by
  apply Nat.lt_of_not_le; intro hle
  rw [hr.clean i hle] at h; cases h
theorem Room.push {σ : St} (hr : Room σ) (o : AO) : Room (σ.push o) := ⟨Nat.zero_le _, fun c hc => by
  rw [push_n] at hc
  rw [push_obj, if_neg (fun e => by rw [e] at hc; omega)]
  exact hr.clean c (by omega)⟩
section
variable {s : St} {b b' : Id} {o o1 o' : AO} {l : List AO} {i : Nat}
theorem SxP_obj (hr : Room s) (hb : b.val < s.n.val) (hl : l.length ≤ 5000) (hi : i < l.length) : (Sx (s.put b o) l).obj (nm s i) = (l[i]?).getD .dead := by
  rw [← nm_put s b o i]; exact Sx_objD (hr.put hb o) hl hi
theorem SxP_put (hr : Room s) (hb : b.val < s.n.val) (hl : l.length ≤ 5000) (hi : i < l.length) : (Sx (s.put b o) l).put (nm s i) o' = Sx (s.put b o) (l.set i o') := by
  have := Sx_put (s := s.put b o) (hr.put hb o) hl hi o'
  rw [nm_put] at this; exact this
end
theorem vstore_ag {s : St} {i : Id} {cs old : List AV} (ho : s.obj i = .cells old) (h : cs.length = old.length) : vstore old.length (.ptr i 0) (.agg cs) s = .ok undef (s.put i (.cells cs)) := by
  show vcells (s.obj i) _ = _
  rw [ho, vcells_cells]
  show br (Nat.beq cs.length old.length) (br (Nat.ble (0 + old.length) old.length) (R.ok undef (s.put i (.cells (splice 0 cs old)))) .no) .no = _
  rw [show Nat.beq cs.length old.length = true by rw [h]; exact Nat.beq_refl _, show Nat.ble (0 + old.length) old.length = true by rw [Nat.ble_eq]; omega, splice_whole _ _ (by omega)]; rfl
inductive ExK (σ : St) (k : Nat) : AV → List AV → Prop where
  | nils : ExK σ k .nils []
  | sl (i : Id) (len : Nat) (cs : List AV) (h : σ.obj i = .cells cs) (h1 : cs.length = len * k) (h0 : 0 < len) (hm : len ≤ limit) : ExK σ k (.sl i 0 len len k) cs
section
variable {σ σ' : St} {k : Nat} {a : AV} {cs : List AV}
theorem ExK.frame (h : ExK σ k a cs) (hf : ∀ i ∈ ids a, σ'.obj i = σ.obj i) : ExK σ' k a cs := by
  cases h with
  | nils => exact .nils
  | sl i len _ h h1 h0 hm => exact .sl i len cs (by rw [hf i (List.mem_singleton.mpr rfl)]; exact h) h1 h0 hm
theorem ExK.one (h : ExK σ k a cs) : a.one = true := by cases h <;> rfl
theorem ExK.nod (h : ExK σ k a cs) : (ids a).Nodup := by cases h <;> simp [ids, AV.onSl]
theorem ExK.len (h : ExK σ k a cs) : cs.length = lenOf a * k := by
  cases h with
  | nils => show 0 = 0 * k; omega
  | sl i len _ h h1 h0 hm => exact h1
theorem ExK.isl (h : ExK σ k a cs) (hr : Room σ) : IsSl σ a ∧ rowOf σ a = cs := by
  cases h with
  | nils => exact ⟨.nils, rfl⟩
  | sl i len _ h h1 h0 hm =>
    refine ⟨.sl i 0 len len k cs hm h (St.lt_of_obj hr h) (Nat.zero_le _), ?_⟩
    show (σ.obj i).row.drop 0 = cs
    rw [h]; rfl
theorem ExK.app (h : ExK σ k a cs) (hr : Room σ) (hk : 0 < k) {y : AV} (hy : IsSl σ y) (hrow : lenOf y * k ≤ (rowOf σ y).length) (hy0 : 0 < lenOf y) (bytes : Nat) (hb : (lenOf a + lenOf y) * bytes ≤ limit) (hm : lenOf a + lenOf y ≤ limit) :
    ∃ (a' : AV) (σ' : St), vapp k bytes a y σ = .ok a' σ' ∧ ExK σ' k a' (cs ++ (rowOf σ y).take (lenOf y * k)) ∧ Room σ' ∧ σ'.n.val = σ.n.val + 1 ∧ ids a' = [σ.n] ∧ lenOf a' = lenOf a + lenOf y ∧ ∀ c, c ∉ ids a → c.val < σ.n.val → σ'.obj c = σ.obj c := by
  have hzl : ((rowOf σ y).take (lenOf y * k)).length = lenOf y * k := by rw [List.length_take]; omega
  generalize hz : (rowOf σ y).take (lenOf y * k) = zs at *
  generalize hn : lenOf y = n at *
  have hs : ∀ K : Nat → List AV → R, srcOf σ k y K = K n zs := fun K => by rw [srcOf_sl hy (by rw [hn]; exact hrow), hn, hz]
  cases h with
  | nils =>
    have hb' : n * bytes ≤ limit := by have : lenOf AV.nils = 0 := rfl; rw [this, Nat.zero_add] at hb; exact hb
    have hm' : n ≤ limit := by have : lenOf AV.nils = 0 := rfl; rw [this, Nat.zero_add] at hm; exact hm
    refine ⟨.sl σ.n 0 n n k, σ.push (.cells zs), ?_, .sl σ.n n zs (push_self σ _) hzl hy0 hm', hr.push _, push_n _, rfl, (Nat.zero_add _).symm, fun c _ hc => push_old hc⟩
    unfold vapp
    rw [hs]
    show br (Nat.beq n 0) _ (grown σ k bytes n zs) = _
    rw [beq_f (by omega)]
    show br (Nat.ble (n * bytes) limit) (br (Nat.ble n limit) (σ.alloc (.cells zs) fun b s => .ok (.sl b 0 n n k) s) .no) .no = _
    rw [ble_t hb', ble_t hm', alloc_push]; rfl
  | sl i len _ h h1 h0 h4 =>
    have hb' : (len + n) * bytes ≤ limit := hb
    have hm' : len + n ≤ limit := hm
    have hi := St.lt_of_obj hr h
    have ho : ((σ.put i .dead).push (.cells (cs ++ zs))).obj σ.n = .cells (cs ++ zs) := by rw [push_obj, put_n, if_pos rfl]
    refine ⟨.sl σ.n 0 (len + n) (len + n) k, (σ.put i .dead).push (.cells (cs ++ zs)), ?_, .sl σ.n (len + n) _ ho (by rw [List.length_append, h1, hzl, Nat.add_mul]) (by omega) hm', (hr.put hi _).push _, by rw [push_n, put_n], rfl, rfl, fun c hc hcn => ?_⟩
    · unfold vapp
      rw [hs]
      show (σ.obj i).onCells R.no _ = _
      rw [h]
      show br (Nat.ble (0 + len * k) (ln cs)) (br (Nat.ble (len + n) len) _ (br (Nat.beq k 0) _ (br (Nat.beq k k) (grown (σ.put i .dead) k bytes (len + n) (apd (tk (len * k) (dr 0 cs)) zs)) .no))) .no = _
      rw [ln_eq, ble_t (by omega), ble_f (by omega), beq_f (by omega), beq_t]
      show grown (σ.put i .dead) k bytes (len + n) (apd (tk (len * k) (dr 0 cs)) zs) = _
      rw [apd_eq, tk_eq, dr_eq, List.drop_zero, ← h1, List.take_length]
      show br (Nat.ble ((len + n) * bytes) limit) (br (Nat.ble (len + n) limit) ((σ.put i .dead).alloc (.cells (cs ++ zs)) fun b s => .ok (.sl b 0 (len + n) (len + n) k) s) .no) .no = _
      rw [ble_t hb', ble_t hm', alloc_push, put_n]; rfl
    · rw [push_old (by rw [put_n]; exact hcn), St.obj_put, if_neg]; intro e; subst e; exact hc (List.mem_singleton.mpr rfl)
end
structure Mn where
  name : List UInt8
  t : T
  twin : Bool
structure MV where
  next : Int
  holds : List T
  fails : Bool
  means : List Mn
structure RowsM (s : St) (row : List AV) (l : List Mn) : Prop where
  el : ∀ i (h : i < l.length), ∃ cs rest, row.drop (i * 8) = .str l[i].name :: (cs ++ (.bool l[i].twin :: rest)) ∧ cs.length = 6 ∧ RT6 s cs l[i].t
structure Mk0 (s σ : St) (b : Id) (hv mv : AV) (hc mc : List AV) (X : MV) : Prop where
  room : Room σ
  ext : Ext s σ
  ob : σ.obj b = .cells [.int .i64 X.next, hv, .bool X.fails, mv]
  hh : ExK σ 6 hv hc
  hm : ExK σ 8 mv mc
  hr : Rows6 s hc X.holds
  hl : lenOf hv = X.holds.length
  mr : RowsM s mc X.means
  ml : lenOf mv = X.means.length
  nd : (b :: (ids hv ++ ids mv)).Nodup
  ge : ∀ i ∈ b :: (ids hv ++ ids mv), s.n.val ≤ i.val ∧ i.val < σ.n.val
structure Mv (b : Id) (σ : St) (hv mv : AV) (σ' : St) (hv' mv' : AV) : Prop where
  n : σ.n.val ≤ σ'.n.val
  old : ∀ c, c ∉ b :: (ids hv ++ ids mv) → c.val < σ.n.val → σ'.obj c = σ.obj c
  foot : ∀ c ∈ b :: (ids hv' ++ ids mv'), c ∈ b :: (ids hv ++ ids mv) ∨ σ.n.val ≤ c.val
theorem Mv.refl (b : Id) (σ : St) (hv mv : AV) : Mv b σ hv mv σ hv mv := ⟨Nat.le_refl _, fun _ _ _ => rfl, fun _ h => .inl h⟩
theorem Mv.trans {b : Id} {σ σ1 σ2 : St} {hv mv hv1 mv1 hv2 mv2 : AV} (h : Mv b σ hv mv σ1 hv1 mv1) (k : Mv b σ1 hv1 mv1 σ2 hv2 mv2) : Mv b σ hv mv σ2 hv2 mv2 := by
  refine ⟨Nat.le_trans h.n k.n, fun c hc hn => ?_, fun c hc => ?_⟩
  · rw [k.old c (fun hm => (h.foot c hm).elim hc fun h => by omega) (Nat.lt_of_lt_of_le hn h.n)]; exact h.old c hc hn
  · exact (k.foot c hc).elim (h.foot c) fun h2 => .inr (Nat.le_trans h.n h2)
theorem Mv.fld (b : Id) (σ : St) (hv mv : AV) (o : AO) : Mv b σ hv mv (σ.put b o) hv mv :=
  ⟨by rw [put_n]; exact Nat.le_refl _, fun c hc _ => by rw [St.obj_put, if_neg (fun e => hc (by rw [e]; simp))], fun _ h => .inl h⟩
theorem Mv.sx {b : Id} {σ : St} {hv mv : AV} (hr : Room σ) {l : List AO} (hl : l.length ≤ 5000) : Mv b σ hv mv (Sx σ l) hv mv :=
  ⟨by rw [Sx_n hr hl]; omega, fun c _ hn => Sx_old hr hl hn, fun _ h => .inl h⟩
theorem Mv.new {b : Id} {σ σ' : St} {hv mv hv' mv' : AV} (h : Mv b σ hv mv σ' hv' mv') {c : Id} (hc : σ.n.val ≤ c.val) (o : AO) : Mv b σ hv mv (σ'.put c o) hv' mv' :=
  ⟨by rw [put_n]; exact h.n, fun d hd hn => by rw [St.obj_put, if_neg (fun e => by rw [e] at hn; omega)]; exact h.old d hd hn, h.foot⟩
section
variable {s σ : St} {b : Id} {hv mv : AV} {hc mc : List AV} {X : MV}
theorem Mk0.frame (h : Mk0 s σ b hv mv hc mc X) {σ' : St} (hr : Room σ') (hx : Ext s σ') (hn : σ.n.val ≤ σ'.n.val) (hf : ∀ i ∈ b :: (ids hv ++ ids mv), σ'.obj i = σ.obj i) : Mk0 s σ' b hv mv hc mc X :=
  ⟨hr, hx, (hf b (by simp)).trans h.ob, h.hh.frame fun i hi => hf i (by simp [hi]), h.hm.frame fun i hi => hf i (by simp [hi]), h.hr, h.hl, h.mr, h.ml, h.nd, fun i hi => ⟨(h.ge i hi).1, Nat.lt_of_lt_of_le (h.ge i hi).2 hn⟩⟩
theorem Mk0.sx (h : Mk0 s σ b hv mv hc mc X) {l : List AO} (hl : l.length ≤ 5000) : Mk0 s (Sx σ l) b hv mv hc mc X :=
  h.frame (h.room.sx hl) (h.ext.trans (ext_Sx h.room hl)) (by rw [Sx_n h.room hl]; omega) fun i hi => Sx_old h.room hl (h.ge i hi).2
theorem Mk0.put (h : Mk0 s σ b hv mv hc mc X) {c : Id} (hcn : c.val < σ.n.val) (hs : s.n.val ≤ c.val) (hn : c ∉ b :: (ids hv ++ ids mv)) (o : AO) : Mk0 s (σ.put c o) b hv mv hc mc X :=
  h.frame (h.room.put hcn o) (h.ext.put hs o) (by rw [put_n]; omega) fun i hi => by rw [St.obj_put, if_neg]; intro e; subst e; exact hn hi
theorem Mk0.bge (h : Mk0 s σ b hv mv hc mc X) : s.n.val ≤ b.val ∧ b.val < σ.n.val := h.ge b (by simp)
theorem Mk0.fld (h : Mk0 s σ b hv mv hc mc X) (d : Int) (c : Bool) : Mk0 s (σ.put b (.cells [.int .i64 d, hv, .bool c, mv])) b hv mv hc mc {X with next := d, fails := c} := by
  have hb := h.bge
  have hne : ∀ i ∈ ids hv ++ ids mv, i ≠ b := fun i hi e => by subst e; exact (List.nodup_cons.mp h.nd).1 hi
  have hg : ∀ i ∈ ids hv ++ ids mv, (σ.put b (.cells [.int .i64 d, hv, .bool c, mv])).obj i = σ.obj i := fun i hi => by rw [St.obj_put, if_neg (hne i hi)]
  exact ⟨h.room.put hb.2 _, h.ext.put hb.1 _, put_self _ _ _, h.hh.frame fun i hi => hg i (by simp [hi]), h.hm.frame fun i hi => hg i (by simp [hi]), h.hr, h.hl, h.mr, h.ml, h.nd, fun i hi => by rw [put_n]; exact h.ge i hi⟩
theorem Rows6.app {s : St} {r1 r2 : List AV} {l1 l2 : List T} (h1 : Rows6 s r1 l1) (h2 : Rows6 s r2 l2) (hl : r1.length = l1.length * 6) : Rows6 s (r1 ++ r2) (l1 ++ l2) := by
  refine ⟨fun i hi => ?_, fun c hc => (List.mem_append.mp hc).elim (h1.ov c) (h2.ov c)⟩
  by_cases h : i < l1.length
  · rw [List.getElem_append_left h, List.drop_append_of_le_length (by omega)]
    obtain ⟨cs, rest, e1, e2, e3⟩ := (h1.el i h).t6
    rw [e1, List.append_assoc]
    exact e3.rt _
  · have hj : i - l1.length < l2.length := by rw [List.length_append] at hi; omega
    rw [List.getElem_append_right (by omega)]
    have e : (r1 ++ r2).drop (i * 6) = r2.drop ((i - l1.length) * 6) := by
      rw [List.drop_append, List.drop_of_length_le (by omega), List.nil_append, hl, show i * 6 - l1.length * 6 = (i - l1.length) * 6 by omega]
    rw [e]; exact h2.el _ hj
theorem Mk0.appH (h : Mk0 s σ b hv mv hc mc X) {y : AV} {l : List T} (hy : IsSl σ y) (hyl : lenOf y = l.length) (hrow : l.length * 6 ≤ (rowOf σ y).length) (hl0 : l ≠ []) (hR : Rows6 s ((rowOf σ y).take (l.length * 6)) l) (hm : X.holds.length + l.length ≤ 1000000) :
    ∃ hv' σ1 σ2 hc', vapp 6 88 hv y σ = .ok hv' σ1 ∧ hv'.one = true ∧ σ1.obj b = .cells [.int .i64 X.next, hv, .bool X.fails, mv] ∧ vstore 1 (.ptr b 1) hv' σ1 = .ok undef σ2 ∧ Mk0 s σ2 b hv' mv hc' mc {X with holds := X.holds ++ l} ∧ (∀ c, c ∉ b :: (ids hv ++ ids mv) → c.val < σ.n.val → σ2.obj c = σ.obj c) ∧ σ2.n.val = σ.n.val + 1 ∧ ids hv' = [σ.n] := by
  have nd := h.nd
  have hb := h.bge
  have hpos : 0 < l.length := List.length_pos_iff.mpr hl0
  obtain ⟨a', σ1, e1, o1, r1, n1, d1, l1, f1⟩ := h.hh.app h.room (by omega) hy (by rw [hyl]; exact hrow) (by rw [hyl]; exact hpos) 88 (by rw [h.hl, hyl]; unfold limit; omega) (by rw [h.hl, hyl]; unfold limit; omega)
  rw [hyl] at o1
  have hbh : b ∉ ids hv := fun hm => (List.nodup_cons.mp nd).1 (by simp [hm])
  have ob1 : σ1.obj b = .cells [.int .i64 X.next, hv, .bool X.fails, mv] := by rw [f1 b hbh hb.2]; exact h.ob
  have hx1 : Ext s σ1 := ⟨by rw [n1]; have := h.ext.n; omega, fun c hcn => by
    rw [f1 c (fun hm => by have := (h.ge c (by simp [hm])).1; omega) (by have := h.ext.n; omega)]; exact h.ext.old c hcn⟩
  have hbn : b ≠ σ.n := fun e => by rw [← e] at hb; omega
  have hmn : σ.n ∉ ids mv := fun hm => by have := (h.ge σ.n (by simp [hm])).2; omega
  have hg : ∀ i ∈ ids mv, (σ1.put b (.cells [.int .i64 X.next, a', .bool X.fails, mv])).obj i = σ.obj i := fun i hi => by
    have hne : i ≠ b := fun e => by subst e; exact (List.nodup_cons.mp nd).1 (by simp [hi])
    have hnh : i ∉ ids hv := fun hm => by
      have := (List.nodup_append.mp (List.nodup_cons.mp nd).2).2.2 i hm i hi
      exact this rfl
    rw [St.obj_put, if_neg hne, f1 i hnh (h.ge i (by simp [hi])).2]
  have hg2 : ∀ i ∈ ids a', (σ1.put b (.cells [.int .i64 X.next, a', .bool X.fails, mv])).obj i = σ1.obj i := fun i hi => by
    rw [d1, List.mem_singleton] at hi
    rw [St.obj_put, if_neg]; rw [hi]; exact fun e => hbn e.symm
  refine ⟨a', σ1, _, hc ++ (rowOf σ y).take (l.length * 6), e1, o1.one, ob1, vstore_el ob1 o1.one (by simp), ?_, fun c hcn hcl => ?_, by rw [put_n, n1], d1⟩
  rotate_left
  · simp only [List.mem_cons, List.mem_append, not_or] at hcn
    rw [St.obj_put, if_neg hcn.1, f1 c hcn.2.1 hcl]
  refine ⟨r1.put (by omega) _, hx1.put hb.1 _, by rw [put_self]; rfl, o1.frame hg2, h.hm.frame hg, h.hr.app hR (by rw [h.hh.len, h.hl]), by rw [l1, h.hl, hyl]; simp, h.mr, h.ml, ?_, fun i hi => ?_⟩
  · rw [d1]
    refine List.nodup_cons.mpr ⟨fun hm => ?_, List.nodup_append.mpr ⟨by simp, h.hm.nod, fun i hi j hj e => ?_⟩⟩
    · rcases List.mem_append.mp hm with hm | hm
      · exact hbn (List.mem_singleton.mp hm)
      · exact (List.nodup_cons.mp nd).1 (by simp [hm])
    · rw [List.mem_singleton.mp hi] at e; rw [← e] at hj; exact hmn hj
  · rw [put_n, n1]
    rw [d1] at hi
    rcases List.mem_cons.mp hi with rfl | hi
    · exact ⟨hb.1, by omega⟩
    · rcases List.mem_append.mp hi with hi | hi
      · rw [List.mem_singleton.mp hi]; exact ⟨h.ext.n, by omega⟩
      · have := h.ge i (by simp [hi]); exact ⟨this.1, by omega⟩
theorem RowsM.app {s : St} {r1 r2 : List AV} {l1 l2 : List Mn} (h1 : RowsM s r1 l1) (h2 : RowsM s r2 l2) (hl : r1.length = l1.length * 8) : RowsM s (r1 ++ r2) (l1 ++ l2) := by
  refine ⟨fun i hi => ?_⟩
  by_cases h : i < l1.length
  · rw [List.getElem_append_left h, List.drop_append_of_le_length (by omega)]
    obtain ⟨cs, rest, e1, e2, e3⟩ := h1.el i h
    refine ⟨cs, rest ++ r2, ?_, e2, e3⟩
    rw [e1]; simp
  · have hj : i - l1.length < l2.length := by rw [List.length_append] at hi; omega
    rw [List.getElem_append_right (by omega)]
    have e : (r1 ++ r2).drop (i * 8) = r2.drop ((i - l1.length) * 8) := by
      rw [List.drop_append, List.drop_of_length_le (by omega), List.nil_append, hl, show i * 8 - l1.length * 8 = (i - l1.length) * 8 by omega]
    rw [e]; exact h2.el _ hj
theorem Mk0.appM (h : Mk0 s σ b hv mv hc mc X) {y : Id} {cs : List AV} {m : Mn} (hy : σ.obj y = .cells (.str m.name :: (cs ++ [.bool m.twin]))) (hcl : cs.length = 6) (hc6 : RT6 s cs m.t) (hm : X.means.length + 1 ≤ 1000000) :
    ∃ mv' σ1 σ2 mc', vapp 8 112 mv (.sl y 0 1 1 0) σ = .ok mv' σ1 ∧ mv'.one = true ∧ σ1.obj b = .cells [.int .i64 X.next, hv, .bool X.fails, mv] ∧ vstore 1 (.ptr b 3) mv' σ1 = .ok undef σ2 ∧ Mk0 s σ2 b hv mv' hc mc' {X with means := X.means ++ [m]} ∧ (∀ c, c ∉ b :: (ids hv ++ ids mv) → c.val < σ.n.val → σ2.obj c = σ.obj c) ∧ σ2.n.val = σ.n.val + 1 ∧ ids mv' = [σ.n] := by
  have nd := h.nd
  have hb := h.bge
  have hsy : IsSl σ (.sl y 0 1 1 0) := .sl y 0 1 1 0 _ (by unfold limit; omega) hy (St.lt_of_obj h.room hy) (by simp)
  have hro : rowOf σ (.sl y 0 1 1 0) = .str m.name :: (cs ++ [.bool m.twin]) := by show (σ.obj y).row.drop 0 = _; rw [hy]; rfl
  have hyl : lenOf (.sl y 0 1 1 0) = 1 := rfl
  have h8 : (.str m.name :: (cs ++ [.bool m.twin]) : List AV).length = 8 := by simp [hcl]
  obtain ⟨a', σ1, e1, o1, r1, n1, d1, l1, f1⟩ := h.hm.app h.room (by omega) hsy (by rw [hro, hyl, h8]; omega) (by rw [hyl]; omega) 112 (by rw [h.ml, hyl]; unfold limit; omega) (by rw [h.ml, hyl]; unfold limit; omega)
  rw [hro, hyl, List.take_of_length_le (by rw [h8]; omega)] at o1
  have hbh : b ∉ ids mv := fun hm => (List.nodup_cons.mp nd).1 (by simp [hm])
  have ob1 : σ1.obj b = .cells [.int .i64 X.next, hv, .bool X.fails, mv] := by rw [f1 b hbh hb.2]; exact h.ob
  have hx1 : Ext s σ1 := ⟨by rw [n1]; have := h.ext.n; omega, fun c hcn => by
    rw [f1 c (fun hm => by have := (h.ge c (by simp [hm])).1; omega) (by have := h.ext.n; omega)]; exact h.ext.old c hcn⟩
  have hbn : b ≠ σ.n := fun e => by rw [← e] at hb; omega
  have hmn : σ.n ∉ ids hv := fun hm => by have := (h.ge σ.n (by simp [hm])).2; omega
  have hg : ∀ i ∈ ids hv, (σ1.put b (.cells [.int .i64 X.next, hv, .bool X.fails, a'])).obj i = σ.obj i := fun i hi => by
    have hne : i ≠ b := fun e => by subst e; exact (List.nodup_cons.mp nd).1 (by simp [hi])
    have hnh : i ∉ ids mv := fun hm => by
      have := (List.nodup_append.mp (List.nodup_cons.mp nd).2).2.2 i hi i hm
      exact this rfl
    rw [St.obj_put, if_neg hne, f1 i hnh (h.ge i (by simp [hi])).2]
  have hg2 : ∀ i ∈ ids a', (σ1.put b (.cells [.int .i64 X.next, hv, .bool X.fails, a'])).obj i = σ1.obj i := fun i hi => by
    rw [d1, List.mem_singleton] at hi
    rw [St.obj_put, if_neg]; rw [hi]; exact fun e => hbn e.symm
  refine ⟨a', σ1, _, mc ++ (.str m.name :: (cs ++ [.bool m.twin])), e1, o1.one, ob1, vstore_el ob1 o1.one (by simp), ?_, fun c hcn hcl => ?_, by rw [put_n, n1], d1⟩
  rotate_left
  · simp only [List.mem_cons, List.mem_append, not_or] at hcn
    rw [St.obj_put, if_neg hcn.1, f1 c hcn.2.2 hcl]
  have hR : RowsM s (.str m.name :: (cs ++ [.bool m.twin])) [m] := ⟨fun i hi => by
    have : i = 0 := by simpa using hi
    subst this
    exact ⟨cs, [], rfl, hcl, hc6⟩⟩
  refine ⟨r1.put (by omega) _, hx1.put hb.1 _, by rw [put_self]; rfl, h.hh.frame hg, o1.frame hg2, h.hr, h.hl, h.mr.app hR (by rw [h.hm.len, h.ml]), by rw [l1, h.ml, hyl]; simp, ?_, fun i hi => ?_⟩
  · rw [d1]
    refine List.nodup_cons.mpr ⟨fun hm => ?_, List.nodup_append.mpr ⟨h.hh.nod, by simp, fun i hi j hj e => ?_⟩⟩
    · rcases List.mem_append.mp hm with hm | hm
      · exact (List.nodup_cons.mp nd).1 (by simp [hm])
      · exact hbn (List.mem_singleton.mp hm)
    · rw [List.mem_singleton.mp hj] at e; rw [e] at hi; exact hmn hi
  · rw [put_n, n1]
    rw [d1] at hi
    rcases List.mem_cons.mp hi with rfl | hi
    · exact ⟨hb.1, by omega⟩
    · rcases List.mem_append.mp hi with hi | hi
      · have := h.ge i (by simp [hi]); exact ⟨this.1, by omega⟩
      · rw [List.mem_singleton.mp hi]; exact ⟨h.ext.n, by omega⟩
theorem mv_appH {hv' : AV} {σ2 : St} (fr : ∀ c, c ∉ b :: (ids hv ++ ids mv) → c.val < σ.n.val → σ2.obj c = σ.obj c) (n2 : σ2.n.val = σ.n.val + 1) (di : ids hv' = [σ.n]) : Mv b σ hv mv σ2 hv' mv :=
  ⟨by omega, fr, fun c hc => by
    rw [di] at hc
    rcases List.mem_cons.mp hc with e | hc
    · exact .inl (by rw [e]; simp)
    · rcases List.mem_append.mp hc with hc | hc
      · exact .inr (by rw [List.mem_singleton.mp hc]; exact Nat.le_refl _)
      · exact .inl (by simp [hc])⟩
theorem mv_appM {mv' : AV} {σ2 : St} (fr : ∀ c, c ∉ b :: (ids hv ++ ids mv) → c.val < σ.n.val → σ2.obj c = σ.obj c) (n2 : σ2.n.val = σ.n.val + 1) (di : ids mv' = [σ.n]) : Mv b σ hv mv σ2 hv mv' :=
  ⟨by omega, fr, fun c hc => by
    rw [di] at hc
    rcases List.mem_cons.mp hc with e | hc
    · exact .inl (by rw [e]; simp)
    · rcases List.mem_append.mp hc with hc | hc
      · exact .inl (by simp [hc])
      · exact .inr (by rw [List.mem_singleton.mp hc]; exact Nat.le_refl _)⟩
theorem Mk0.old (h : Mk0 s σ b hv mv hc mc X) {σ' : St} {hv' mv' : AV} {hc' mc' : List AV} {X' : MV} (h' : Mk0 s σ' b hv' mv' hc' mc' X') (ho : Old σ σ') : Mk0 s σ b hv mv hc' mc' X' := by
  have hs : ∀ i ∈ b :: (ids hv ++ ids mv), σ.obj i = σ'.obj i := fun i hi => (ho i (h.ge i hi).2).symm
  have e1 : ([.int .i64 X.next, hv, .bool X.fails, mv] : List AV) = [.int .i64 X'.next, hv', .bool X'.fails, mv'] := by
    have := hs b (by simp)
    rw [h.ob, h'.ob] at this
    injection this
  have q1 : X.next = X'.next := by simp only [List.cons.injEq, AV.int.injEq] at e1; exact e1.1.2
  have q2 : hv = hv' := by simp only [List.cons.injEq] at e1; exact e1.2.1
  have q3 : X.fails = X'.fails := by simp only [List.cons.injEq, AV.bool.injEq] at e1; exact e1.2.2.1
  have q4 : mv = mv' := by simp only [List.cons.injEq] at e1; exact e1.2.2.2.1
  subst q2 q4
  exact ⟨h.room, h.ext, by rw [h.ob, q1, q3], h'.hh.frame fun i hi => hs i (by simp [hi]), h'.hm.frame fun i hi => hs i (by simp [hi]), h'.hr, h'.hl, h'.mr, h'.ml, h.nd, h.ge⟩
end
end Go.Vm
namespace Go.Proofs.YtfndnjmnakdglaaGreatDoor
open Go Go.Vm
set_option linter.unusedVariables false
set_option linter.unusedSimpArgs false
theorem nat_Of_ok (s : St) (n : Nat) (hr : Room s) (hn : n < 1000000000) : ∃ r, CA F.nat_Of [.int .u64 (n : Int)] s = .ok r s ∧ ∀ t, Nats t r (lims n) := by
  by_cases h0 : n = 0
  · subst h0
    refine ⟨.nils, ?_, fun t => by rw [lims_0]; exact nats_nil t⟩
    refine fn_of code_nat_Of (by simp) ?_
    simp only [go_sem, ↓reduceIte, Nat.reduceMod, Nat.reduceEqDiff, Nat.reduceAdd, Nat.reduceMul, Nat.reduceSub, Nat.reduceLeDiff, Nat.reduceLT, Int.reduceEq, Int.reduceLT, Int.reduceLE, Int.reduceAdd, Int.reduceSub, Int.reduceNeg, reduceCtorEq, Nat.reduceShiftRight, Nat.reduceAnd, Nat.reduceBNe]
    rw [W_loop]
    simp only [go_sem, ↓reduceIte, Nat.reduceMod, Nat.reduceEqDiff, Nat.reduceAdd, Nat.reduceMul, Nat.reduceSub, Nat.reduceLeDiff, Nat.reduceLT, Int.reduceEq, Int.reduceLT, Int.reduceLE, Int.reduceAdd, Int.reduceSub, Int.reduceNeg, reduceCtorEq, Nat.reduceShiftRight, Nat.reduceAnd, Nat.reduceBNe]
    exact settled_ov (Ext.refl s) (ov_nils _)
  · have h1 : (0 : Int) < (n : Int) := by omega
    have hm : ((n % 1000000000 : Nat) : Int) = (n : Int) := by omega
    have hw : IntKind.wrap .u32 (n : Int) = (n : Int) := wrap_u32 (by omega) (by omega)
    have hq : ((n / 1000000000 : Nat) : Int) = 0 := by omega
    refine ⟨.ts (cellsN [n]) 1 1 false, ?_, fun t => by rw [lims_one h0 hn]; exact nats_ts [n] (by simp) 1 false⟩
    refine fn_of code_nat_Of (by simp) ?_
    simp only [go_sem, ↓reduceIte, Nat.reduceMod, Nat.reduceEqDiff, Nat.reduceAdd, Nat.reduceMul, Nat.reduceSub, Nat.reduceLeDiff, Nat.reduceLT, Int.reduceEq, Int.reduceLT, Int.reduceLE, Int.reduceAdd, Int.reduceSub, Int.reduceNeg, reduceCtorEq, Nat.reduceShiftRight, Nat.reduceAnd, Nat.reduceBNe]
    rw [W_loop]
    simp only [go_sem, ↓reduceIte, Nat.reduceMod, Nat.reduceEqDiff, Nat.reduceAdd, Nat.reduceMul, Nat.reduceSub, Nat.reduceLeDiff, Nat.reduceLT, Int.reduceEq, Int.reduceLT, Int.reduceLE, Int.reduceAdd, Int.reduceSub, Int.reduceNeg, reduceCtorEq, Nat.reduceShiftRight, Nat.reduceAnd, Nat.reduceBNe, h1, rem_u64, hm, hw, hr, vapp_one0 (bytes := 4) (i := 0) (L := [.cells [.int .u32 (n : Int)]]) hr (by simp) rfl (by unfold limit; omega), quo_u64 (show n ≤ 18446744073709551615 by omega), hq]
    rw [W_loop]
    simp only [go_sem, ↓reduceIte, Nat.reduceMod, Nat.reduceEqDiff, Nat.reduceAdd, Nat.reduceMul, Nat.reduceSub, Nat.reduceLeDiff, Nat.reduceLT, Int.reduceEq, Int.reduceLT, Int.reduceLE, Int.reduceAdd, Int.reduceSub, Int.reduceNeg, reduceCtorEq, Nat.reduceShiftRight, Nat.reduceAnd, Nat.reduceBNe]
    refine settled_fz (ext_Sx hr (by simp)) (fz_own (L := [.cells [.int .u32 (n : Int)], .cells [.int .u32 (n : Int)]]) hr (by simp) (i := 1) rfl ?_)
    intro c hc; simp at hc; subst hc; exact ov_int _ _ _
theorem whole_Of_ok (s : St) (n : Nat) (hr : Room s) (hs : s.n.val ≤ 1000050000) (hn : n < 1000000000) : ∃ r, CA F.whole_Of [.int .i64 (n : Int)] s = .ok (.agg [.bool false, r]) s ∧ ∀ t, Nats t r (lims n) := by
  obtain ⟨r, h1, h2⟩ := nat_Of_ok (Sx s [.cells [.bool false, .nils]]) n (hr.Sx (by simp; omega) (by simp)) hn
  have h3 := whole_ok (Sx s [.cells [.bool false, .nils]]) r (lims n) false (hr.Sx (by simp; omega) (by simp)) (by rw [Sx_n hr (by simp)]; simp; omega) (h2 _)
  have hw : IntKind.wrap .u64 (n : Int) = (n : Int) := wrap_u64 (by omega) (by omega)
  have hlt : ¬ ((n : Int) < 0) := by omega
  refine ⟨r, ?_, h2⟩
  refine fn_of code_whole_Of (by simp) ?_
  simp only [go_sem, ↓reduceIte, Nat.reduceMod, Nat.reduceEqDiff, Nat.reduceAdd, Nat.reduceMul, Nat.reduceSub, Nat.reduceLeDiff, Nat.reduceLT, Int.reduceEq, Int.reduceLT, Int.reduceLE, Int.reduceAdd, Int.reduceSub, Int.reduceNeg, reduceCtorEq, Nat.reduceShiftRight, Nat.reduceAnd, Nat.reduceBNe, hr, hw, hlt, h1, h3, (h2 s).one, decide_false, Bool.false_and]
  exact settled_ov (ext_Sx hr (by simp)) (ov2 (ov_bool _ _) (h2 s).sl.ov)
theorem fr_len {n : Nat} (hn : n < 1000000000) : (Lib.decDigits n).length ≤ 9 := dec_len_le (k := 9) (by omega) (by omega)
def frName (n : Nat) : List UInt8 := 33 :: Lib.decDigits n
def frT (n : Nat) (k : Int) : T := .mk 4 ⟨false, []⟩ (frName n) k []
abbrev frC (n : Nat) (k : Int) : List AV := [.int .i64 4, .bool false, .nils, .str (frName n), .int .i64 k, .nils]
theorem fr_rep (s : St) (n : Nat) (k : Int) : RT6 s (frC n k) (frT n k) := con_rep s (frName n) k
theorem lift_Fresh_ok (s : St) (n : Nat) (k : Int) (hr : Room s) (hs : s.n.val ≤ 1000040000) (hn : n < 1000000000) : CA F.lift_Fresh [.int .i64 (n : Int), .int .i64 k] s = .ok (.agg (frC n k)) s := by
  have hm : max (n : Int) 0 = (n : Int) := by omega
  obtain ⟨r, h1, h2⟩ := whole_Of_ok (Sx s [.cells zeroC]) n (hr.Sx (by simp only [List.length_cons, List.length_nil]; omega) (by simp)) (by rw [Sx_n hr (by simp)]; simp only [List.length_cons, List.length_nil]; omega) hn
  have h3 := nat_call (Sx s [.cells zeroC]) r (lims n) (by have := lims_len1 hn; omega) (h2 _)
  rw [vh_of (lims_is n), val_lims] at h3
  have hcat : ∀ σ, vbin .add (.str [33]) (.str (Lib.decDigits n)) σ = .ok (.str (33 :: Lib.decDigits n)) σ := fun σ => vbin_sadd σ [33] _ (by have := fr_len hn; simp only [List.length_cons, List.length_nil]; omega)
  refine fn_of code_lift_Fresh (by simp) ?_
  simp only [go_sem, ↓reduceIte, Nat.reduceMod, Nat.reduceEqDiff, Nat.reduceAdd, Nat.reduceMul, Nat.reduceSub, Nat.reduceLeDiff, Nat.reduceLT, Int.reduceEq, Int.reduceLT, Int.reduceLE, Int.reduceAdd, Int.reduceSub, Int.reduceNeg, reduceCtorEq, Nat.reduceShiftRight, Nat.reduceAnd, Nat.reduceBNe, hr, hm, h1, (h2 s).one, h3, hcat, List.cons_append, List.nil_append]
  exact settled_ov (ext_Sx hr (by simp)) (ov_agg (rt6_ov (fr_rep s n k)))
end Go.Proofs.YtfndnjmnakdglaaGreatDoor
namespace Go.Proofs.YtfndnjmnakdglaaGreatDoor
open Go Go.Vm
set_option linter.unusedVariables false
set_option linter.unusedSimpArgs false
section
variable {s σ : St} {b : Vm.Id} {hv mv : AV} {hc mc : List AV} {X : MV}
def MkM (k : Nat) (s σ : St) (hv mv : AV) (σ' : St) (b : Vm.Id) (X : MV) : Prop := ∃ hv' mv' hc' mc', Mk0 s σ' b hv' mv' hc' mc' X ∧ Mv b σ hv mv σ' hv' mv' ∧ σ'.n.val ≤ σ.n.val + k
theorem fn_mk {g : Vm.Id} {nt : Nat} {res : List Res} {body : CC} {args : List AV} {Q : AV → MV → Prop} {k : Nat} (h : Mk0 s σ b hv mv hc mc X) (hg : g.get (Vm.prog Go.Proofs.Tryz.prog) = .mk nt res body ∧ g.get BT = noB) (hl : args.length ≤ nt)
    (hw : W CA body (fun f t => Rs (fun r0 s0 => Ov σ.n.val r0 ∧ ∃ X', Q r0 X' ∧ MkM k s σ hv mv s0 b X') res f t) (fun _ _ _ => False) (fun f t => Rs (fun r0 s0 => Ov σ.n.val r0 ∧ ∃ X', Q r0 X' ∧ MkM k s σ hv mv s0 b X') res f t) (frame0 args) (Sx σ [])) : ∃ r σ' X', CA g args σ = .ok r σ' ∧ Q r X' ∧ MkM k s σ hv mv σ' b X' := by
  obtain ⟨r, σ', s0, h1, ⟨X', h2, h3⟩, h4⟩ := fn_st hg hl hw
  refine ⟨r, σ', X', h1, h2, ?_⟩
  rcases h4 with ⟨rfl, h4⟩ | rfl
  · obtain ⟨hv', mv', hc', mc', h3, _, _⟩ := h3
    exact ⟨_, _, _, _, h.old h3 h4, Mv.refl _ _ _ _, by omega⟩
  · exact h3
theorem rows6_ts {s σ : St} {v : AV} {l : List T} (hx : Ext s σ) (hsl : IsSl σ v) (hlen : lenOf v = l.length) (hrow : l.length * 6 ≤ (rowOf σ v).length) (hR : Rows6 s ((rowOf σ v).take (l.length * 6)) l) : Ts σ v l := by
  refine ⟨hsl, hlen, fun i hi => ?_⟩
  obtain ⟨cs, rest, e1, e2, e3⟩ := (hR.el i hi).t6
  have e : (rowOf σ v).drop (i * 6) = cs ++ (rest ++ (rowOf σ v).drop (l.length * 6)) := by
    have h1 : (rowOf σ v).drop (i * 6) = ((rowOf σ v).take (l.length * 6)).drop (i * 6) ++ (rowOf σ v).drop (l.length * 6) := by
      conv => lhs; rw [← List.take_append_drop (l.length * 6) (rowOf σ v)]
      rw [List.drop_append_of_le_length (by rw [List.length_take]; omega)]
    rw [h1, e1, List.append_assoc]
  rw [e]; exact (e3.x hx).rt _
theorem rt6_ovσ {cs : List AV} {t : T} (hx : Ext s σ) (h : RT6 s cs t) : ∀ c ∈ cs, Ov σ.n.val c := rt6_ov (h.x hx)
theorem mMake_ok (h : Mk0 s σ b hv mv hc mc X) {v : AV} {l : List T} (op : Int) (hsl : IsSl σ v) (hlen : lenOf v = l.length) (hrow : l.length * 6 ≤ (rowOf σ v).length) (hR : Rows6 s ((rowOf σ v).take (l.length * 6)) l) (ht : T.tames l) (hl : l.length ≤ 1000) (hn : σ.n.val ≤ 1000020000) :
    ∃ cs σ', CA F.lift_Maker_Make [.ptr b 0, .int .i64 op, v] σ = .ok (.agg cs) σ' ∧ RT6 s cs (makeT op l) ∧ MkM 100 s σ hv mv σ' b {X with fails := X.fails || decide (makeE op l ≠ 0)} := by
  have hr := h.room
  have hb := h.bge.2
  have ob := h.ob
  have hT := rows6_ts h.ext hsl hlen hrow hR
  obtain ⟨cs, f1, f2⟩ := Make_ok2 (Sx σ [.cells zeroC]) v l op ht (hr.Sx (by simp; omega) (by simp)) (by rw [Sx_n hr (by simp)]; simp; omega) hl (hT.x (ext_Sx hr (by simp)))
  rw [rowOf_ext (ext_Sx hr (by simp)) hsl] at f2
  have hrt := f2 s hR
  have hov := rt6_ovσ h.ext hrt
  obtain ⟨ng, mg, kv, rfl, hz, hk⟩ := hrt.ex
  have o1 := hz.one
  have o2 := hk.one
  have key : ∃ r σ' X', CA F.lift_Maker_Make [.ptr b 0, .int .i64 op, v] σ = .ok r σ' ∧ (r = .agg [.int .i64 (makeT op l).op, ng, mg, .str (makeT op l).name, .int .i64 (makeT op l).sort, kv] ∧ X' = {X with fails := X.fails || decide (makeE op l ≠ 0)}) ∧ MkM 100 s σ hv mv σ' b X' := by
    refine fn_mk h code_lift_Maker_Make (by simp) ?_
    cases hf : X.fails
    · rw [hf] at ob
      simp only [go_sem, ↓reduceIte, Nat.reduceMod, Nat.reduceEqDiff, Nat.reduceAdd, Nat.reduceMul, Nat.reduceSub, Nat.reduceLeDiff, Nat.reduceLT, Int.reduceEq, Int.reduceLT, Int.reduceLE, Int.reduceAdd, Int.reduceSub, Int.reduceNeg, reduceCtorEq, Nat.reduceShiftRight, Nat.reduceAnd, Nat.reduceBNe, hr, hb, ob, f1, o1, o2, Bool.not_false, SxP_obj, SxP_put]
      exact ⟨ov_agg hov, _, rfl, _, _, _, _, (h.fld X.next _).sx (by simp), (Mv.fld _ _ _ _ _).trans (Mv.sx (hr.put hb _) (by simp)), by rw [Sx_n (hr.put hb _) (by simp), put_n]; simp only [List.length_cons, List.length_nil]; omega⟩
    · rw [hf] at ob
      simp only [go_sem, ↓reduceIte, Nat.reduceMod, Nat.reduceEqDiff, Nat.reduceAdd, Nat.reduceMul, Nat.reduceSub, Nat.reduceLeDiff, Nat.reduceLT, Int.reduceEq, Int.reduceLT, Int.reduceLE, Int.reduceAdd, Int.reduceSub, Int.reduceNeg, reduceCtorEq, Nat.reduceShiftRight, Nat.reduceAnd, Nat.reduceBNe, hr, hb, ob, f1, o1, o2, Bool.not_true, SxP_obj, SxP_put]
      exact ⟨ov_agg hov, _, rfl, _, _, _, _, (h.fld X.next _).sx (by simp), (Mv.fld _ _ _ _ _).trans (Mv.sx (hr.put hb _) (by simp)), by rw [Sx_n (hr.put hb _) (by simp), put_n]; simp only [List.length_cons, List.length_nil]; omega⟩
  obtain ⟨r, σ', X', h1, ⟨rfl, rfl⟩, h3⟩ := key
  exact ⟨_, σ', h1, hrt, h3⟩
theorem splice1_6_8 (a0 a1 a2 a3 a4 a5 z0 z1 z2 z3 z4 z5 z6 z7 : AV) : splice 1 [a0, a1, a2, a3, a4, a5] [z0, z1, z2, z3, z4, z5, z6, z7] = [z0, a0, a1, a2, a3, a4, a5, z7] := rfl
theorem splice0_8_8 (a0 a1 a2 a3 a4 a5 a6 a7 z0 z1 z2 z3 z4 z5 z6 z7 : AV) : splice 0 [a0, a1, a2, a3, a4, a5, a6, a7] [z0, z1, z2, z3, z4, z5, z6, z7] = [a0, a1, a2, a3, a4, a5, a6, a7] := rfl
theorem mHold_ok (h : Mk0 s σ b hv mv hc mc X) {v : AV} {l : List T} (hsl : IsSl σ v) (hlen : lenOf v = l.length) (hrow : l.length * 6 ≤ (rowOf σ v).length) (hl0 : l ≠ []) (hR : Rows6 s ((rowOf σ v).take (l.length * 6)) l) (hm : X.holds.length + l.length ≤ 1000000) :
    ∃ σ', CA F.lift_Maker_Hold [.ptr b 0, v] σ = .ok (.tup []) σ' ∧ MkM 100 s σ hv mv σ' b {X with holds := X.holds ++ l} := by
  have ob := h.ob
  obtain ⟨hv', σ1, σ2, hc', w1, o1, ob1, w2, h2, fr, n2, di⟩ := h.appH hsl hlen hrow hl0 hR hm
  have key : ∃ r σ' X', CA F.lift_Maker_Hold [.ptr b 0, v] σ = .ok r σ' ∧ (r = .tup [] ∧ X' = {X with holds := X.holds ++ l}) ∧ MkM 100 s σ hv mv σ' b X' := by
    refine fn_mk h code_lift_Maker_Hold (by simp) ?_
    simp only [go_sem, ↓reduceIte, Nat.reduceMod, Nat.reduceEqDiff, Nat.reduceAdd, Nat.reduceMul, Nat.reduceSub, Nat.reduceLeDiff, Nat.reduceLT, Int.reduceEq, Int.reduceLT, Int.reduceLE, Int.reduceAdd, Int.reduceSub, Int.reduceNeg, reduceCtorEq, Nat.reduceShiftRight, Nat.reduceAnd, Nat.reduceBNe, Sx_nil, ob, w1, o1, ob1, w2]
    exact ⟨ov_tup (by simp), _, ⟨rfl, rfl⟩, _, _, _, _, h2, mv_appH fr n2 di, by omega⟩
  obtain ⟨r, σ', X', h1, ⟨rfl, rfl⟩, h3⟩ := key
  exact ⟨σ', h1, h3⟩
theorem mFresh_ok (h : Mk0 s σ b hv mv hc mc X) {cs : List AV} {t : T} (hc6 : RT6 s cs t) (h0 : 0 ≤ X.next) (h1 : X.next < 999999999) (hn : σ.n.val ≤ 1000020000) (hm : X.means.length + 1 ≤ 1000000) :
    ∃ σ', CA F.lift_Maker_Fresh [.ptr b 0, .agg cs] σ = .ok (.agg (frC X.next.toNat t.sort)) σ' ∧ MkM 100 s σ hv mv σ' b {X with next := X.next + 1, means := X.means ++ [⟨frName X.next.toNat, t, false⟩]} := by
  have hr := h.room
  have hb := h.bge.2
  have ob := h.ob
  have hcx := hc6.x h.ext
  have hov := rt6_ovσ h.ext (fr_rep s X.next.toNat t.sort)
  obtain ⟨n, hnn⟩ : ∃ n : Nat, X.next = (n : Int) := ⟨X.next.toNat, by omega⟩
  have hn2 : X.next.toNat = n := by omega
  rw [hn2] at hov ⊢
  obtain ⟨ng, mg, kv, rfl, hz, hk⟩ := hc6.ex
  have o1 := hz.one
  have o2 := hk.one
  have key : ∃ r σ' X', CA F.lift_Maker_Fresh [.ptr b 0, .agg [.int .i64 t.op, ng, mg, .str t.name, .int .i64 t.sort, kv]] σ = .ok r σ' ∧ (r = .agg (frC n t.sort) ∧ X' = {X with next := X.next + 1, means := X.means ++ [⟨frName n, t, false⟩]}) ∧ MkM 100 s σ hv mv σ' b X' := by
    refine fn_mk h code_lift_Maker_Fresh (by simp) ?_
    rw [hnn] at ob
    simp only [go_sem, ↓reduceIte, Nat.reduceMod, Nat.reduceEqDiff, Nat.reduceAdd, Nat.reduceMul, Nat.reduceSub, Nat.reduceLeDiff, Nat.reduceLT, Int.reduceEq, Int.reduceLT, Int.reduceLE, Int.reduceAdd, Int.reduceSub, Int.reduceNeg, reduceCtorEq, Nat.reduceShiftRight, Nat.reduceAnd, Nat.reduceBNe, hr, hb, ob, o1, o2]
    refine W_drawn hr _ (by simp) ?_
    simp only [List.nil_append, List.cons_append, List.length_nil, List.length_cons, List.replicate_succ, List.replicate_zero]
    have f1 := lift_Fresh_ok (Sx σ [.cells [.int .i64 t.op, ng, mg, .str t.name, .int .i64 t.sort, kv], .cells zeroC, .dead, .dead, .dead, .dead, .dead, .dead, .dead, .dead, .dead]) n t.sort (hr.sx (by simp)) (by rw [Sx_n hr (by simp)]; simp only [List.length_cons, List.length_nil]; omega) (by omega)
    have hw : IntKind.wrap .i64 ((n : Int) + 1) = (n : Int) + 1 := wrap_i64 (by omega) (by omega)
    simp only [go_sem, ↓reduceIte, Nat.reduceMod, Nat.reduceEqDiff, Nat.reduceAdd, Nat.reduceMul, Nat.reduceSub, Nat.reduceLeDiff, Nat.reduceLT, Int.reduceEq, Int.reduceLT, Int.reduceLE, Int.reduceAdd, Int.reduceSub, Int.reduceNeg, reduceCtorEq, Nat.reduceShiftRight, Nat.reduceAnd, Nat.reduceBNe, hr, hb, ob, o1, o2, f1, hw]
    refine W_drawn (hr.put hb _) _ (by simp) ?_
    simp only [List.nil_append, List.cons_append, List.length_nil, List.length_cons, List.replicate_succ, List.replicate_zero, nm_put, Nat.reduceAdd]
    have hM1 := (h.fld ((n : Int) + 1) X.fails).sx (l := [.cells [.int .i64 t.op, ng, mg, .str t.name, .int .i64 t.sort, kv], .cells zeroC, .dead, .dead, .dead, .dead, .dead, .dead, .dead, .cells (frC n t.sort), .dead, .dead, .dead, .dead, .dead, .dead, .dead, .dead, .dead, .dead, .dead, .dead, .dead, .dead, .dead]) (by simp)
    have nv : ∀ k, k < 25 → (nm σ k).val = σ.n.val + k := fun k hk => nm_val hr (by omega)
    have hσp : (σ.put b (.cells [.int .i64 ((n : Int) + 1), hv, .bool X.fails, mv])).n = σ.n := put_n _ _ _
    have nτ := Sx_n (s := σ.put b (.cells [.int .i64 ((n : Int) + 1), hv, .bool X.fails, mv])) (l := [.cells [.int .i64 t.op, ng, mg, .str t.name, .int .i64 t.sort, kv], .cells zeroC, .dead, .dead, .dead, .dead, .dead, .dead, .dead, .cells (frC n t.sort), .dead, .dead, .dead, .dead, .dead, .dead, .dead, .dead, .dead, .dead, .dead, .dead, .dead, .dead, .dead]) (hr.put hb _) (by simp)
    rw [hσp] at nτ
    simp only [List.length_cons, List.length_nil] at nτ
    have q0 : (Sx (σ.put b (.cells [.int .i64 ((n : Int) + 1), hv, .bool X.fails, mv])) [.cells [.int .i64 t.op, ng, mg, .str t.name, .int .i64 t.sort, kv], .cells zeroC, .dead, .dead, .dead, .dead, .dead, .dead, .dead, .cells (frC n t.sort), .dead, .dead, .dead, .dead, .dead, .dead, .dead, .dead, .dead, .dead, .dead, .dead, .dead, .dead, .dead]).obj (nm σ 0) = .cells [.int .i64 t.op, ng, mg, .str t.name, .int .i64 t.sort, kv] := SxP_obj hr hb (by simp) (by simp)
    have q1 : (Sx (σ.put b (.cells [.int .i64 ((n : Int) + 1), hv, .bool X.fails, mv])) [.cells [.int .i64 t.op, ng, mg, .str t.name, .int .i64 t.sort, kv], .cells zeroC, .dead, .dead, .dead, .dead, .dead, .dead, .dead, .cells (frC n t.sort), .dead, .dead, .dead, .dead, .dead, .dead, .dead, .dead, .dead, .dead, .dead, .dead, .dead, .dead, .dead]).obj (nm σ 1) = .cells zeroC := SxP_obj hr hb (by simp) (by simp)
    have q9 : (Sx (σ.put b (.cells [.int .i64 ((n : Int) + 1), hv, .bool X.fails, mv])) [.cells [.int .i64 t.op, ng, mg, .str t.name, .int .i64 t.sort, kv], .cells zeroC, .dead, .dead, .dead, .dead, .dead, .dead, .dead, .cells (frC n t.sort), .dead, .dead, .dead, .dead, .dead, .dead, .dead, .dead, .dead, .dead, .dead, .dead, .dead, .dead, .dead]).obj (nm σ 9) = .cells (frC n t.sort) := SxP_obj hr hb (by simp) (by simp)
    have m1 : Mv b σ hv mv (Sx (σ.put b (.cells [.int .i64 ((n : Int) + 1), hv, .bool X.fails, mv])) [.cells [.int .i64 t.op, ng, mg, .str t.name, .int .i64 t.sort, kv], .cells zeroC, .dead, .dead, .dead, .dead, .dead, .dead, .dead, .cells (frC n t.sort), .dead, .dead, .dead, .dead, .dead, .dead, .dead, .dead, .dead, .dead, .dead, .dead, .dead, .dead, .dead]) hv mv := (Mv.fld _ _ _ _ _).trans (Mv.sx (hr.put hb _) (by simp))
    generalize Sx (σ.put b (.cells [.int .i64 ((n : Int) + 1), hv, .bool X.fails, mv])) [.cells [.int .i64 t.op, ng, mg, .str t.name, .int .i64 t.sort, kv], .cells zeroC, .dead, .dead, .dead, .dead, .dead, .dead, .dead, .cells (frC n t.sort), .dead, .dead, .dead, .dead, .dead, .dead, .dead, .dead, .dead, .dead, .dead, .dead, .dead, .dead, .dead] = τ at *
    have hf : ∀ k, k < 25 → nm σ k ∉ b :: (ids hv ++ ids mv) := fun k hk hm => by have := (h.ge _ hm).2; have := nv k hk; omega
    have hsn := h.ext.n
    have hM2 := hM1.put (c := nm σ 20) (by have := nv 20 (by omega); omega) (by have := nv 20 (by omega); omega) (hf 20 (by omega)) (.cells (.str (frName n) :: ([.int .i64 t.op, ng, mg, .str t.name, .int .i64 t.sort, kv] ++ [.bool false])))
    obtain ⟨mv', σ1, σ2, mc', w1, p1, ob1, w2, h2, fr, n2, di⟩ := hM2.appM (m := ⟨frName n, t, false⟩) (put_self _ _ _) rfl hc6 (by simpa using hm)
    have m2 := m1.new (c := nm σ 20) (by have := nv 20 (by omega); omega) (.cells (.str (frName n) :: ([.int .i64 t.op, ng, mg, .str t.name, .int .i64 t.sort, kv] ++ [.bool false])))
    have m3 := (m2.trans (mv_appM fr n2 di)).new (c := nm σ 1) (by have := nv 1 (by omega); omega) (.cells (frC n t.sort))
    have nt : (τ.put (nm σ 20) (.cells (.str (frName n) :: ([.int .i64 t.op, ng, mg, .str t.name, .int .i64 t.sort, kv] ++ [.bool false])))).n = τ.n := put_n _ _ _
    rw [nt] at fr n2 di
    have ne : ∀ j k, j < 25 → k < 25 → j ≠ k → nm σ j ≠ nm σ k := fun j k hj hk hjk e => by have := nv j hj; have := nv k hk; rw [e] at *; omega
    have r9 : σ2.obj (nm σ 9) = .cells (frC n t.sort) := by rw [fr _ (hf 9 (by omega)) (by have := nv 9 (by omega); omega), St.obj_put, if_neg (ne 9 20 (by omega) (by omega) (by omega))]; exact q9
    have r1 : σ2.obj (nm σ 1) = .cells zeroC := by rw [fr _ (hf 1 (by omega)) (by have := nv 1 (by omega); omega), St.obj_put, if_neg (ne 1 20 (by omega) (by omega) (by omega))]; exact q1
    have w3 : vstore 6 (.ptr (nm σ 1) 0) (.agg (frC n t.sort)) σ2 = .ok Vm.undef (σ2.put (nm σ 1) (.cells (frC n t.sort))) := vstore_ag r1 rfl
    simp only [List.cons_append, List.nil_append] at w1
    simp only [go_sem, ↓reduceIte, Nat.reduceMod, Nat.reduceEqDiff, Nat.reduceAdd, Nat.reduceMul, Nat.reduceSub, Nat.reduceLeDiff, Nat.reduceLT, Int.reduceEq, Int.reduceLT, Int.reduceLE, Int.reduceAdd, Int.reduceSub, Int.reduceNeg, reduceCtorEq, Nat.reduceShiftRight, Nat.reduceAnd, Nat.reduceBNe, hr, hb, hM1.ob, q0, q1, q9, w1, p1, ob1, w2, r9, w3, o1, o2, splice1_6_8, splice0_8_8]
    rw [hnn]
    refine ⟨ov_agg hov, _, rfl, _, _, _, _, h2.put (c := nm σ 1) (by have := nv 1 (by omega); omega) (by have := nv 1 (by omega); omega) (fun hm => ?_) _, m3, by rw [put_n]; omega⟩
    rw [di] at hm
    rcases List.mem_cons.mp hm with e | hm
    · exact hf 1 (by omega) (by rw [e]; simp)
    · rcases List.mem_append.mp hm with hm | hm
      · exact hf 1 (by omega) (by simp [hm])
      · have e := List.mem_singleton.mp hm
        have := nv 1 (by omega)
        rw [e] at this; omega
  obtain ⟨r, σ', X', h1, ⟨rfl, rfl⟩, h3⟩ := key
  exact ⟨σ', h1, h3⟩
end
end Go.Proofs.YtfndnjmnakdglaaGreatDoor
namespace Go.Proofs.YtfndnjmnakdglaaGreatDoor
open Go Go.Vm
set_option linter.unusedVariables false
set_option linter.unusedSimpArgs false
def chT (t : T) : Bool := (decide (t.op = 12) && decide (t.sort = 2)) || decide (t.op = 18)
theorem choice_ok (s : St) (cs : List AV) (t : T) (hr : Room s) (hn : s.n.val ≤ 1000059000) (h : RT6 s cs t) : CA F.lift_choice [.agg cs] s = .ok (.bool (chT t)) s := by
  obtain ⟨ng, mg, kv, rfl, hz, hk⟩ := h.ex
  refine fn_of code_lift_choice (by simp) ?_
  by_cases c1 : t.op = 12
  · by_cases c2 : t.sort = 2
    · simp only [go_sem, ↓reduceIte, Nat.reduceMod, Nat.reduceEqDiff, Nat.reduceAdd, Nat.reduceMul, Nat.reduceSub, Nat.reduceLeDiff, Nat.reduceLT, Int.reduceEq, Int.reduceLT, Int.reduceLE, Int.reduceAdd, Int.reduceSub, Int.reduceNeg, reduceCtorEq, Nat.reduceShiftRight, Nat.reduceAnd, Nat.reduceBNe, hr, c1, c2]
      exact settled_bool (ext_Sx hr (by simp)) (by simp [chT, c1, c2])
    · simp only [go_sem, ↓reduceIte, Nat.reduceMod, Nat.reduceEqDiff, Nat.reduceAdd, Nat.reduceMul, Nat.reduceSub, Nat.reduceLeDiff, Nat.reduceLT, Int.reduceEq, Int.reduceLT, Int.reduceLE, Int.reduceAdd, Int.reduceSub, Int.reduceNeg, reduceCtorEq, Nat.reduceShiftRight, Nat.reduceAnd, Nat.reduceBNe, hr, c1, c2]
      exact settled_bool (ext_Sx hr (by simp)) (by simp [chT, c1, c2])
  · simp only [go_sem, ↓reduceIte, Nat.reduceMod, Nat.reduceEqDiff, Nat.reduceAdd, Nat.reduceMul, Nat.reduceSub, Nat.reduceLeDiff, Nat.reduceLT, Int.reduceEq, Int.reduceLT, Int.reduceLE, Int.reduceAdd, Int.reduceSub, Int.reduceNeg, reduceCtorEq, Nat.reduceShiftRight, Nat.reduceAnd, Nat.reduceBNe, hr, c1]
    exact settled_bool (ext_Sx hr (by simp)) (by simp [chT, c1])
mutual
def anyT (p : T → Bool) : T → Bool
  | .mk op n nm so kids => p (.mk op n nm so kids) || anyTs p kids
def anyTs (p : T → Bool) : List T → Bool
  | [] => false
  | t :: l => anyT p t || anyTs p l
end
theorem anyT_eq (p : T → Bool) (t : T) : anyT p t = (p t || anyTs p t.kids) := by cases t; rfl
theorem anyTs_any (p : T → Bool) (l : List T) : anyTs p l = l.any (anyT p) := by
  induction l with
  | nil => rfl
  | cons a l ih => simp [anyTs, ih]
theorem any_take {l : List T} {p : T → Bool} {i : Nat} (h : i < l.length) : (l.take (i + 1)).any p = ((l.take i).any p || p l[i]) := by
  rw [← List.take_append_getElem h, List.any_append]; simp
theorem any_true {l : List T} {p : T → Bool} {i : Nat} (h : i < l.length) (hp : p l[i] = true) : l.any p = true := List.any_eq_true.mpr ⟨_, List.getElem_mem h, hp⟩
theorem any_ok (p : T → Bool) (g : Vm.Id) (hg : ∀ (s : St) (cs : List AV) (t : T), Room s → s.n.val ≤ 1000059000 → RT6 s cs t → CA g [.agg cs] s = .ok (.bool (p t)) s) : ∀ (n : Nat) (l : List T), T.sizes l ≤ n → ∀ (s : St) (v : AV), Room s → s.n.val + T.sizes l ≤ 1000058000 → Ts s v l → CA F.lift_Any [.fn g [] [], v] s = .ok (.bool (anyTs p l)) s := by
  intro n
  induction n with
  | zero =>
    intro l hl s v hr hn hv
    have hlen := T.length_le l
    have e : l = [] := List.eq_nil_of_length_eq_zero (by omega)
    subst e
    refine fn_of code_lift_Any (by simp) ?_
    simp only [go_sem, ↓reduceIte, Nat.reduceMod, Nat.reduceEqDiff, Nat.reduceAdd, Nat.reduceMul, Nat.reduceSub, Nat.reduceLeDiff, Nat.reduceLT, Int.reduceEq, Int.reduceLT, Int.reduceLE, Int.reduceAdd, Int.reduceSub, Int.reduceNeg, reduceCtorEq, Nat.reduceShiftRight, Nat.reduceAnd, Nat.reduceBNe, hv.vlen, List.length_nil]
    rw [W_loop]
    simp only [go_sem, ↓reduceIte, Nat.reduceMod, Nat.reduceEqDiff, Nat.reduceAdd, Nat.reduceMul, Nat.reduceSub, Nat.reduceLeDiff, Nat.reduceLT, Int.reduceEq, Int.reduceLT, Int.reduceLE, Int.reduceAdd, Int.reduceSub, Int.reduceNeg, reduceCtorEq, Nat.reduceShiftRight, Nat.reduceAnd, Nat.reduceBNe, Int.lt_irrefl]
    exact settled_bool (Ext.refl s) rfl
  | succ n ihn =>
    intro l hl s v hr hn hv
    have hm := hv.most
    have hle := T.length_le l
    rw [anyTs_any]
    refine fn_of code_lift_Any (by simp) ?_
    simp only [go_sem, ↓reduceIte, Nat.reduceMod, Nat.reduceEqDiff, Nat.reduceAdd, Nat.reduceMul, Nat.reduceSub, Nat.reduceLeDiff, Nat.reduceLT, Int.reduceEq, Int.reduceLT, Int.reduceLE, Int.reduceAdd, Int.reduceSub, Int.reduceNeg, reduceCtorEq, Nat.reduceShiftRight, Nat.reduceAnd, Nat.reduceBNe, hv.vlen]
    refine W_inv (fun k f τ => ∃ (i : Nat) (σ : St), Sx σ [] = τ ∧ Room σ ∧ Ext s σ ∧ σ.n.val ≤ s.n.val + i ∧ k = l.length - i ∧ i ≤ l.length ∧ i ≤ T.sizes (l.take i) ∧ (l.take i).any (anyT p) = false ∧ (vv 0).get f = .fn g [] [] ∧ (vv 7).get f = v ∧ (vv 8).get f = .int .i64 (l.length : Int) ∧ (vv 9).get f = .int .i64 (i : Int)) ?_ ⟨0, s, rfl, hr, Ext.refl s, by omega, rfl, by omega, by omega, by simp, ?_⟩
    · rintro k f τ ⟨i, σ, rfl, hr1, hx, hn1, rfl, hi, his, ha, g0, g7, g8, g9⟩
      have hv1 := hv.x hx
      by_cases c1 : i < l.length
      · obtain ⟨cs, hat⟩ := hv1.at c1
        have hs := T.sizes_take l i c1
        have hs2 := T.size_at c1
        have hs3 := T.size_kids l[i]
        have hsl := T.sizes_le l (i + 1)
        have h6 := hat.t6
        obtain ⟨ng, mg, kv, rfl, hz, hkv⟩ := hat.t6.ex
        obtain ⟨L, hL⟩ : ∃ L : List AO, L = [.cells [.int .i64 l[i].op, ng, mg, .str l[i].name, .int .i64 l[i].sort, kv]] := ⟨_, rfl⟩
        have hlen : L.length = 1 := by rw [hL]; rfl
        have hx2 := ext_Sx (s := σ) (l := L) hr1 (by omega)
        have hr2 := hr1.Sx (l := L) (by omega) (by omega)
        have hn2 := Sx_n (s := σ) (l := L) hr1 (by omega)
        have f1 := ihn l[i].kids (by omega) (Sx σ L) kv hr2 (by omega) (hkv.x hx2)
        have f2 := hg (Sx σ L) _ l[i] hr2 (by omega) (h6.x hx2)
        rw [hL] at f1 f2 hx2
        cases d1 : p l[i]
        · cases d2 : anyTs p l[i].kids
          · simp only [go_sem, ↓reduceIte, Nat.reduceMod, Nat.reduceEqDiff, Nat.reduceAdd, Nat.reduceMul, Nat.reduceSub, Nat.reduceLeDiff, Nat.reduceLT, Int.reduceEq, Int.reduceLT, Int.reduceLE, Int.reduceAdd, Int.reduceSub, Int.reduceNeg, reduceCtorEq, Nat.reduceShiftRight, Nat.reduceAnd, Nat.reduceBNe, g0, g7, g8, g9, Int.ofNat_lt, c1, hr1, hv1.ia c1, hat.ld, f1, f2, d1, d2]
            refine ⟨l.length - (i + 1), by omega, i + 1, _, Sx_nil _, hr1.Sx (by simp; omega) (by simp), hx.trans (ext_Sx hr1 (by simp)), ?_, rfl, by omega, by omega, ?_, ?_⟩
            · rw [Sx_n hr1 (by simp)]; simp; omega
            · rw [any_take c1, ha, anyT_eq, d1, d2]; rfl
            · rw [wrap_i64 (by omega) (by omega)]; congr 1
          · simp only [go_sem, ↓reduceIte, Nat.reduceMod, Nat.reduceEqDiff, Nat.reduceAdd, Nat.reduceMul, Nat.reduceSub, Nat.reduceLeDiff, Nat.reduceLT, Int.reduceEq, Int.reduceLT, Int.reduceLE, Int.reduceAdd, Int.reduceSub, Int.reduceNeg, reduceCtorEq, Nat.reduceShiftRight, Nat.reduceAnd, Nat.reduceBNe, g0, g7, g8, g9, Int.ofNat_lt, c1, hr1, hv1.ia c1, hat.ld, f1, f2, d1, d2]
            exact settled_bool (hx.trans (ext_Sx hr1 (by simp))) (by rw [any_true c1 (by rw [anyT_eq, d1, d2]; rfl)])
        · simp only [go_sem, ↓reduceIte, Nat.reduceMod, Nat.reduceEqDiff, Nat.reduceAdd, Nat.reduceMul, Nat.reduceSub, Nat.reduceLeDiff, Nat.reduceLT, Int.reduceEq, Int.reduceLT, Int.reduceLE, Int.reduceAdd, Int.reduceSub, Int.reduceNeg, reduceCtorEq, Nat.reduceShiftRight, Nat.reduceAnd, Nat.reduceBNe, g0, g7, g8, g9, Int.ofNat_lt, c1, hr1, hv1.ia c1, hat.ld, f2, d1]
          exact settled_bool (hx.trans (ext_Sx hr1 (by simp))) (by rw [any_true c1 (by rw [anyT_eq, d1]; rfl)])
      · have e : i = l.length := by omega
        subst e
        rw [List.take_length] at ha
        simp only [go_sem, ↓reduceIte, Nat.reduceMod, Nat.reduceEqDiff, Nat.reduceAdd, Nat.reduceMul, Nat.reduceSub, Nat.reduceLeDiff, Nat.reduceLT, Int.reduceEq, Int.reduceLT, Int.reduceLE, Int.reduceAdd, Int.reduceSub, Int.reduceNeg, reduceCtorEq, Nat.reduceShiftRight, Nat.reduceAnd, Nat.reduceBNe, g0, g7, g8, g9, Int.ofNat_lt, c1]
        exact settled_bool hx ha.symm
    · simp only [go_sem, ↓reduceIte, Nat.reduceMod, Nat.reduceEqDiff, Nat.reduceAdd, Nat.reduceMul, Nat.reduceSub, Nat.reduceLeDiff, Nat.reduceLT, Int.reduceEq, Int.reduceLT, Int.reduceLE, Int.reduceAdd, Int.reduceSub, Int.reduceNeg, reduceCtorEq, Nat.reduceShiftRight, Nat.reduceAnd, Nat.reduceBNe]
      rfl
theorem Pure_ok (s : St) (cs : List AV) (t : T) (hr : Room s) (hn : s.n.val + t.size ≤ 1000057000) (h : RT6 s cs t) : CA F.lift_Pure [.agg cs] s = .ok (.bool (!anyT chT t)) s := by
  have h' := h
  obtain ⟨ng, mg, kv, rfl, hz, hk⟩ := h.ex
  obtain ⟨L, hL⟩ : ∃ L : List AO, L = [.cells [.int .i64 t.op, ng, mg, .str t.name, .int .i64 t.sort, kv], .cells [.int .i64 t.op, ng, mg, .str t.name, .int .i64 t.sort, kv]] := ⟨_, rfl⟩
  have hlen : L.length = 2 := by rw [hL]; rfl
  have hx2 := ext_Sx (s := s) (l := L) hr (by omega)
  have hr2 := hr.Sx (l := L) (by omega) (by omega)
  have hn2 := Sx_n (s := s) (l := L) hr (by omega)
  have f1 := any_ok chT F.lift_choice choice_ok _ [t] (Nat.le_refl _) (Sx s L) (.sl (nm s 1) 0 1 1 0) hr2 (by simp only [T.sizes]; omega) (one_sl (L := L) hr (by omega) (by rw [hL]; rfl) h')
  have e : anyTs chT [t] = anyT chT t := by simp [anyTs]
  rw [e, hL] at f1
  refine fn_of code_lift_Pure (by simp) ?_
  simp only [go_sem, ↓reduceIte, Nat.reduceMod, Nat.reduceEqDiff, Nat.reduceAdd, Nat.reduceMul, Nat.reduceSub, Nat.reduceLeDiff, Nat.reduceLT, Int.reduceEq, Int.reduceLT, Int.reduceLE, Int.reduceAdd, Int.reduceSub, Int.reduceNeg, reduceCtorEq, Nat.reduceShiftRight, Nat.reduceAnd, Nat.reduceBNe, hr, f1]
  exact settled_bool (ext_Sx hr (by simp)) rfl
end Go.Proofs.YtfndnjmnakdglaaGreatDoor
namespace Go.Proofs.YtfndnjmnakdglaaGreatDoor
open Go Go.Vm
set_option linter.unusedVariables false
set_option linter.unusedSimpArgs false
theorem makeT_tame {op : Int} {l : List T} (h : T.tames l) : (makeT op l).tame := by
  unfold makeT
  split
  · exact ⟨by simp, by simp, h⟩
  · exact ⟨by simp, by simp, trivial⟩
theorem frT_tame {n : Nat} (k : Int) (h : n < 1000000000) : (frT n k).tame := ⟨by simp, by have := fr_len h; simp [frName]; omega, trivial⟩
def kidT (t : T) (i : Nat) : T := (t.kids[i]?).getD zeroT
theorem kidT_at {t : T} {i : Nat} (h : i < t.kids.length) : kidT t i = t.kids[i] := by unfold kidT; rw [List.getElem?_eq_getElem h]; rfl
theorem mk_obj (σ : St) (n i : Vm.Id) : (St.mk σ.h n).obj i = σ.obj i := rfl
theorem kid_cells {s τ : St} {t : T} {kv : AV} (hkv : Ts s kv t.kids) (hx : Ext s τ) {i : Nat} (hi : i < t.kids.length) : ∃ ng mg kv', RT6 s [.int .i64 (kidT t i).op, ng, mg, .str (kidT t i).name, .int .i64 (kidT t i).sort, kv'] (kidT t i) ∧ ng.one = true ∧ mg.one = true ∧ kv'.one = true ∧ (∀ σ, viaddr 6 kv (.int .i64 (i : Int)) σ = .ok (elp kv (i * 6)) σ) ∧ ∀ σ, Ext τ σ → vload true 6 (elp kv (i * 6)) σ = .ok (.agg [.int .i64 (kidT t i).op, ng, mg, .str (kidT t i).name, .int .i64 (kidT t i).sort, kv']) σ := by
  rw [kidT_at hi]
  obtain ⟨cs, hat⟩ := hkv.at hi
  have h6 := hat.t6
  have hld := hat.ld
  obtain ⟨ng, mg, kv', rfl, hz, hk⟩ := hat.t6.ex
  exact ⟨ng, mg, kv', h6, by rw [hz.neg]; rfl, hz.one.2, hk.one, fun σ => hkv.ia hi 6 .i64 σ, fun σ hs => hld σ (hx.trans hs)⟩
abbrev mkX (X : MV) (op : Int) (l : List T) : MV := {X with fails := X.fails || decide (makeE op l ≠ 0)}
abbrev hoX (X : MV) (l : List T) : MV := {X with holds := X.holds ++ l}
abbrev frX (X : MV) (t : T) : MV := {X with next := X.next + 1, means := X.means ++ [⟨frName X.next.toNat, t, false⟩]}
structure LocB (s σ0 : St) (hv0 mv0 : AV) (K : Nat) (σ : St) (b : Vm.Id) (X : MV) (is : List Vm.Id) (os : List AO) (hv mv : AV) (hc mc : List AV) : Prop where
  m0 : Mk0 s σ b hv mv hc mc X
  mw : Mv b σ0 hv0 mv0 σ hv mv
  n : σ.n.val ≤ σ0.n.val + K
  len : is.length = os.length
  nd : is.Nodup
  ob : ∀ (k : Nat) (i : Vm.Id) (o : AO), is[k]? = some i → os[k]? = some o → σ.obj i = o
  own : ∀ i ∈ is, σ0.n.val ≤ i.val ∧ i.val < σ.n.val ∧ i ∉ b :: (ids hv ++ ids mv)
def Loc (s σ0 : St) (hv0 mv0 : AV) (K : Nat) (σ : St) (b : Vm.Id) (X : MV) (is : List Vm.Id) (os : List AO) : Prop := ∃ hv mv hc mc, LocB s σ0 hv0 mv0 K σ b X is os hv mv hc mc
section
variable {s σ0 σ : St} {b : Vm.Id} {hv0 mv0 : AV} {K : Nat} {X : MV} {is : List Vm.Id} {os : List AO}
theorem Loc.start {hc mc : List AV} (h : Mk0 s σ0 b hv0 mv0 hc mc X) : Loc s σ0 hv0 mv0 0 σ0 b X [] [] :=
  ⟨_, _, _, _, h, Mv.refl _ _ _ _, by omega, rfl, by simp, by simp, by simp⟩
theorem Loc.le (h : Loc s σ0 hv0 mv0 K σ b X is os) {K' : Nat} (hk : K ≤ K') : Loc s σ0 hv0 mv0 K' σ b X is os := by
  obtain ⟨hv, mv, hc, mc, h1, h2, h3, h4, h5, h6, h7⟩ := h
  exact ⟨hv, mv, hc, mc, h1, h2, by omega, h4, h5, h6, h7⟩
theorem Loc.nle (h : Loc s σ0 hv0 mv0 K σ b X is os) : σ.n.val ≤ σ0.n.val + K := by
  obtain ⟨hv, mv, hc, mc, h⟩ := h; exact h.n
theorem Loc.nle0 (h : Loc s σ0 hv0 mv0 K σ b X is os) : σ0.n.val ≤ σ.n.val := by
  obtain ⟨hv, mv, hc, mc, h⟩ := h; exact h.mw.n
theorem Loc.room (h : Loc s σ0 hv0 mv0 K σ b X is os) : Room σ := by
  obtain ⟨hv, mv, hc, mc, h⟩ := h; exact h.m0.room
theorem Loc.ext (h : Loc s σ0 hv0 mv0 K σ b X is os) : Ext s σ := by
  obtain ⟨hv, mv, hc, mc, h⟩ := h; exact h.m0.ext
theorem Loc.get (h : Loc s σ0 hv0 mv0 K σ b X is os) (k : Nat) {i : Vm.Id} {o : AO} (h1 : is[k]? = some i) (h2 : os[k]? = some o) : σ.obj i = o := by
  obtain ⟨hv, mv, hc, mc, h⟩ := h; exact h.ob k i o h1 h2
theorem Loc.lt (h : Loc s σ0 hv0 mv0 K σ b X is os) (k : Nat) {i : Vm.Id} (h1 : is[k]? = some i) : i.val < σ.n.val := by
  obtain ⟨hv, mv, hc, mc, h⟩ := h; exact (h.own i (List.mem_of_getElem? h1)).2.1
theorem Loc.blt (h : Loc s σ0 hv0 mv0 K σ b X is os) : b.val < σ.n.val := by
  obtain ⟨hv, mv, hc, mc, h⟩ := h; exact h.m0.bge.2
theorem Loc.fails (h : Loc s σ0 hv0 mv0 K σ b X is os) : ∃ hv mv, σ.obj b = .cells [.int .i64 X.next, hv, .bool X.fails, mv] := by
  obtain ⟨hv, mv, hc, mc, h⟩ := h; exact ⟨hv, mv, h.m0.ob⟩
theorem Loc.done (h : Loc s σ0 hv0 mv0 K σ b X is os) : MkM K s σ0 hv0 mv0 σ b X := by
  obtain ⟨hv, mv, hc, mc, h⟩ := h; exact ⟨hv, mv, hc, mc, h.m0, h.mw, h.n⟩
theorem Loc.put (h : Loc s σ0 hv0 mv0 K σ b X is os) (hs : s.n.val ≤ σ0.n.val) (k : Nat) {i : Vm.Id} (h1 : is[k]? = some i) (o : AO) : Loc s σ0 hv0 mv0 K (σ.put i o) b X is (os.set k o) := by
  obtain ⟨hv, mv, hc, mc, h⟩ := h
  have hm := List.mem_of_getElem? h1
  obtain ⟨q1, q2, q3⟩ := h.own i hm
  refine ⟨hv, mv, hc, mc, h.m0.put q2 (by omega) q3 o, h.mw.new q1 o, by rw [put_n]; exact h.n, by rw [List.length_set]; exact h.len, h.nd, fun k' i' o' e1 e2 => ?_, fun j hj => ?_⟩
  · rw [St.obj_put]
    by_cases e : i' = i
    · subst e
      rw [if_pos rfl]
      have hk : k' = k := by
        obtain ⟨l1, g1⟩ := List.getElem?_eq_some_iff.mp e1
        obtain ⟨l2, g2⟩ := List.getElem?_eq_some_iff.mp h1
        have hp := List.pairwise_iff_getElem.mp h.nd
        rcases Nat.lt_trichotomy k' k with c | c | c
        · exact (hp k' k l1 l2 c (g1.trans g2.symm)).elim
        · exact c
        · exact (hp k k' l2 l1 c (g2.trans g1.symm)).elim
      subst hk
      rw [List.getElem?_set_self (by have := (List.getElem?_eq_some_iff.mp h1).1; rw [h.len] at this; exact this)] at e2
      injection e2
    · rw [if_neg e]
      have hk : k ≠ k' := fun hk => by subst hk; rw [h1] at e1; injection e1 with e1; exact e e1.symm
      rw [List.getElem?_set_ne hk] at e2
      exact h.ob k' i' o' e1 e2
  · rw [put_n]; exact h.own j hj
theorem Loc.sx (h : Loc s σ0 hv0 mv0 K σ b X is os) (hs : σ0.n.val ≤ σ.n.val) (L : List AO) (ks : List Nat) (hl : L.length ≤ 5000) (hk : ∀ k ∈ ks, k < L.length) (hnd : ks.Nodup) : Loc s σ0 hv0 mv0 (K + L.length) (Sx σ L) b X (is ++ ks.map (nm σ)) (os ++ ks.map fun k => (L[k]?).getD .dead) := by
  obtain ⟨hv, mv, hc, mc, h⟩ := h
  have hr := h.m0.room
  have hn := Sx_n hr hl
  have nv : ∀ k ∈ ks, (nm σ k).val = σ.n.val + k := fun k hk' => nm_val hr (by have := hk k hk'; omega)
  refine ⟨hv, mv, hc, mc, h.m0.sx hl, h.mw.trans (Mv.sx hr hl), by rw [hn]; have := h.n; omega, by simp [h.len], List.nodup_append.mpr ⟨h.nd, ?_, ?_⟩, fun k i o e1 e2 => ?_, fun i hi => ?_⟩
  · clear nv
    refine List.nodup_iff_pairwise_ne.mpr (List.pairwise_map.mpr (List.Pairwise.imp_of_mem (fun {a c} ha hc' hac => ?_) (List.nodup_iff_pairwise_ne.mp hnd)))
    intro e
    have e1 := nm_val (s := σ) (k := a) hr (by have := hk a ha; omega)
    have e2 := nm_val (s := σ) (k := c) hr (by have := hk c hc'; omega)
    rw [e] at e1; omega
  · intro i hi j hj e
    obtain ⟨k, hk1, rfl⟩ := List.mem_map.mp hj
    have := (h.own i hi).2.1
    have := nv k hk1
    rw [e] at *; omega
  · by_cases c : k < is.length
    · rw [List.getElem?_append_left c] at e1
      rw [List.getElem?_append_left (by rw [← h.len]; exact c)] at e2
      rw [Sx_old hr hl (h.own i (List.mem_of_getElem? e1)).2.1]; exact h.ob k i o e1 e2
    · rw [List.getElem?_append_right (by omega)] at e1
      rw [List.getElem?_append_right (by rw [← h.len]; omega), ← h.len] at e2
      rw [List.getElem?_map] at e1 e2
      cases hq : ks[k - is.length]? with
      | none => rw [hq] at e1; cases e1
      | some q =>
        rw [hq] at e1 e2
        have e1 : nm σ q = i := by simpa using e1
        have e2 : (L[q]?).getD .dead = o := by simpa using e2
        rw [← e1, ← e2]; exact Sx_objD hr hl (hk q (List.mem_of_getElem? hq))
  · rcases List.mem_append.mp hi with hi | hi
    · obtain ⟨q1, q2, q3⟩ := h.own i hi
      exact ⟨q1, by rw [hn]; omega, q3⟩
    · obtain ⟨k, hk1, rfl⟩ := List.mem_map.mp hi
      have := nv k hk1
      have := hk k hk1
      exact ⟨by omega, by rw [hn]; omega, fun hm => by have := (h.m0.ge _ hm).2; omega⟩
theorem Loc.sx0 (h : Loc s σ0 hv0 mv0 K σ b X is os) (L : List AO) (hl : L.length ≤ 5000) : Loc s σ0 hv0 mv0 (K + L.length) (Sx σ L) b X is os := by
  have := h.sx h.nle0 L [] hl (by simp) (by simp)
  simp only [List.map_nil, List.append_nil] at this
  exact this
theorem Loc.call {hv mv : AV} {hc mc : List AV} (h : LocB s σ0 hv0 mv0 K σ b X is os hv mv hc mc) {k : Nat} {σ' : St} {X' : MV} (hm : MkM k s σ hv mv σ' b X') : Loc s σ0 hv0 mv0 (K + k) σ' b X' is os := by
  obtain ⟨hv', mv', hc', mc', h1, h2, h3⟩ := hm
  refine ⟨hv', mv', hc', mc', h1, h.mw.trans h2, by have := h.n; omega, h.len, h.nd, fun j i o e1 e2 => ?_, fun i hi => ?_⟩
  · obtain ⟨q1, q2, q3⟩ := h.own i (List.mem_of_getElem? e1)
    rw [h2.old i q3 q2]; exact h.ob j i o e1 e2
  · obtain ⟨q1, q2, q3⟩ := h.own i hi
    exact ⟨q1, Nat.lt_of_lt_of_le q2 h2.n, fun hm => (h2.foot i hm).elim q3 fun h => by omega⟩
theorem row_box {i : Vm.Id} {cs : List AV} (ho : σ.obj i = .cells cs) (n cap ex : Nat) : rowOf σ (.sl i 0 n cap ex) = cs := by
  show (σ.obj i).row.drop 0 = cs
  rw [ho]; rfl
theorem isl_box (hr : Room σ) {i : Vm.Id} {cs : List AV} (ho : σ.obj i = .cells cs) (n cap ex : Nat) (hn : n ≤ limit) : IsSl σ (.sl i 0 n cap ex) := .sl i 0 n cap ex cs hn ho (St.lt_of_obj hr ho) (Nat.zero_le _)
theorem rows6_1 {c1 : List AV} {t1 : T} (h1 : RT6 s c1 t1) (he : Ext s s) : Rows6 s c1 [t1] := by
  refine ⟨fun i hi => ?_, rt6_ov h1⟩
  have e : i = 0 := by simpa using hi
  subst e
  have := h1.rt []
  rw [List.append_nil] at this; exact this
theorem rt6_len {c : List AV} {t : T} (h : RT6 s c t) : c.length = 6 := by obtain ⟨_, _, _, rfl, _, _⟩ := h.ex; rfl
theorem rows6_2 {c1 c2 : List AV} {t1 t2 : T} (h1 : RT6 s c1 t1) (h2 : RT6 s c2 t2) : Rows6 s (c1 ++ c2) [t1, t2] :=
  (rows6_1 h1 (Ext.refl s)).app (rows6_1 h2 (Ext.refl s)) (by rw [rt6_len h1]; rfl)
theorem Loc.make0 (h : Loc s σ0 hv0 mv0 K σ b X is os) (hb : σ0.n.val + K ≤ 1000020000) (op : Int) (k : Nat) {i : Vm.Id} {cs : List AV} (e1 : is[k]? = some i) (e2 : os[k]? = some (.cells cs)) {l : List T} (hR : Rows6 s cs l) (hl : cs.length = l.length * 6) (hlen : l.length ≤ 1000) (ht : T.tames l) :
    ∃ ng mg kv σ', CA F.lift_Maker_Make [.ptr b 0, .int .i64 op, .sl i 0 l.length l.length 0] σ = .ok (.agg [.int .i64 (makeT op l).op, ng, mg, .str (makeT op l).name, .int .i64 (makeT op l).sort, kv]) σ' ∧ ng.one = true ∧ mg.one = true ∧ kv.one = true ∧ RT6 s [.int .i64 (makeT op l).op, ng, mg, .str (makeT op l).name, .int .i64 (makeT op l).sort, kv] (makeT op l) ∧ Loc s σ0 hv0 mv0 (K + 100) σ' b (mkX X op l) is os := by
  obtain ⟨hv, mv, hc, mc, h⟩ := h
  have ho := h.ob k i _ e1 e2
  have hrow := row_box ho l.length l.length 0
  obtain ⟨cs', σ', c1, c2, c3⟩ := mMake_ok h.m0 op (isl_box h.m0.room ho l.length l.length 0 (by unfold limit; omega)) rfl (by rw [hrow]; omega) (by rw [hrow, ← hl, List.take_length]; exact hR) ht hlen (by have := h.n; omega)
  obtain ⟨ng, mg, kv, rfl, hz, hk⟩ := c2.ex
  exact ⟨ng, mg, kv, σ', c1, by rw [hz.neg]; rfl, hz.one.2, hk.one, c2, Loc.call h c3⟩
theorem Loc.make1 (h : Loc s σ0 hv0 mv0 K σ b X is os) (hb : σ0.n.val + K ≤ 1000020000) (op : Int) (k : Nat) {i : Vm.Id} {c1 : List AV} (e1 : is[k]? = some i) (e2 : os[k]? = some (.cells c1)) {t1 : T} (h1 : RT6 s c1 t1) (m1 : t1.tame) :
    ∃ ng mg kv σ', CA F.lift_Maker_Make [.ptr b 0, .int .i64 op, .sl i 0 1 1 0] σ = .ok (.agg [.int .i64 (makeT op [t1]).op, ng, mg, .str (makeT op [t1]).name, .int .i64 (makeT op [t1]).sort, kv]) σ' ∧ ng.one = true ∧ mg.one = true ∧ kv.one = true ∧ RT6 s [.int .i64 (makeT op [t1]).op, ng, mg, .str (makeT op [t1]).name, .int .i64 (makeT op [t1]).sort, kv] (makeT op [t1]) ∧ Loc s σ0 hv0 mv0 (K + 100) σ' b (mkX X op [t1]) is os :=
  h.make0 hb op k e1 e2 (l := [t1]) (rows6_1 h1 (Ext.refl s)) (rt6_len h1) (by simp) ⟨m1, trivial⟩
theorem Loc.make2 (h : Loc s σ0 hv0 mv0 K σ b X is os) (hb : σ0.n.val + K ≤ 1000020000) (op : Int) (k : Nat) {i : Vm.Id} {c1 c2 : List AV} (e1 : is[k]? = some i) (e2 : os[k]? = some (.cells (c1 ++ c2))) {t1 t2 : T} (h1 : RT6 s c1 t1) (h2 : RT6 s c2 t2) (m1 : t1.tame) (m2 : t2.tame) :
    ∃ ng mg kv σ', CA F.lift_Maker_Make [.ptr b 0, .int .i64 op, .sl i 0 2 2 0] σ = .ok (.agg [.int .i64 (makeT op [t1, t2]).op, ng, mg, .str (makeT op [t1, t2]).name, .int .i64 (makeT op [t1, t2]).sort, kv]) σ' ∧ ng.one = true ∧ mg.one = true ∧ kv.one = true ∧ RT6 s [.int .i64 (makeT op [t1, t2]).op, ng, mg, .str (makeT op [t1, t2]).name, .int .i64 (makeT op [t1, t2]).sort, kv] (makeT op [t1, t2]) ∧ Loc s σ0 hv0 mv0 (K + 100) σ' b (mkX X op [t1, t2]) is os :=
  h.make0 hb op k e1 e2 (l := [t1, t2]) (rows6_2 h1 h2) (by rw [List.length_append, rt6_len h1, rt6_len h2]; rfl) (by simp) ⟨m1, m2, trivial⟩
theorem Loc.hold1 (h : Loc s σ0 hv0 mv0 K σ b X is os) (k : Nat) {i : Vm.Id} {c1 : List AV} (e1 : is[k]? = some i) (e2 : os[k]? = some (.cells c1)) {t1 : T} (h1 : RT6 s c1 t1) (hm : X.holds.length + 1 ≤ 1000000) :
    ∃ σ', CA F.lift_Maker_Hold [.ptr b 0, .sl i 0 1 1 0] σ = .ok (.tup []) σ' ∧ Loc s σ0 hv0 mv0 (K + 100) σ' b (hoX X [t1]) is os := by
  obtain ⟨hv, mv, hc, mc, h⟩ := h
  have ho := h.ob k i _ e1 e2
  have hrow := row_box ho 1 1 0
  have hl := rt6_len h1
  obtain ⟨σ', c1, c2⟩ := mHold_ok h.m0 (l := [t1]) (isl_box h.m0.room ho 1 1 0 (by unfold limit; omega)) rfl (by rw [hrow]; simp; omega) (by simp) (by rw [hrow]; show Rows6 s (List.take (1 * 6) _) _; rw [← show _ = 1 * 6 from hl, List.take_length]; exact rows6_1 h1 (Ext.refl s)) (by simpa using hm)
  exact ⟨σ', c1, Loc.call h c2⟩
theorem Loc.fresh (h : Loc s σ0 hv0 mv0 K σ b X is os) (hb : σ0.n.val + K ≤ 1000020000) {cs : List AV} {t : T} (hc6 : RT6 s cs t) (h0 : 0 ≤ X.next) (h1 : X.next < 999999999) (hm : X.means.length + 1 ≤ 1000000) :
    ∃ σ', CA F.lift_Maker_Fresh [.ptr b 0, .agg cs] σ = .ok (.agg (frC X.next.toNat t.sort)) σ' ∧ Loc s σ0 hv0 mv0 (K + 100) σ' b (frX X t) is os := by
  obtain ⟨hv, mv, hc, mc, h⟩ := h
  obtain ⟨σ', c1, c2⟩ := mFresh_ok h.m0 hc6 h0 h1 (by have := h.n; omega) hm
  exact ⟨σ', c1, Loc.call h c2⟩
end
end Go.Proofs.YtfndnjmnakdglaaGreatDoor
