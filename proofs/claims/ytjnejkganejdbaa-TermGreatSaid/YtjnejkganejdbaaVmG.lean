/- The abstract machine is sound: values that are told apart; moving, loading, storing, numbers. No condition. -/
import Derived.Test.YtjnejkganejdbaaVmF
namespace Go.Vm
set_option linter.unusedVariables false
variable {P : Program}

/-! ### What an eliminator that came to something met -/
section
variable {v : AV} {r : AV} {s' : St}
theorem onBool_ok {k : Bool → R} (h : v.onBool .no k = .ok r s') : ∃ b, v = .bool b ∧ k b = .ok r s' := by
  cases v <;> first | exact ⟨_, rfl, h⟩ | exact R.noConfusion h
theorem onInt_ok {k : IntKind → Int → R} (h : v.onInt .no k = .ok r s') : ∃ j n, v = .int j n ∧ k j n = .ok r s' := by
  cases v <;> first | exact ⟨_, _, rfl, h⟩ | exact R.noConfusion h
theorem onStr_ok {k : List UInt8 → R} (h : v.onStr .no k = .ok r s') : ∃ l, v = .str l ∧ k l = .ok r s' := by
  cases v <;> first | exact ⟨_, rfl, h⟩ | exact R.noConfusion h
theorem onAgg_ok {k : List AV → R} (h : v.onAgg .no k = .ok r s') : ∃ l, v = .agg l ∧ k l = .ok r s' := by
  cases v <;> first | exact ⟨_, rfl, h⟩ | exact R.noConfusion h
theorem onTup_ok {k : List AV → R} (h : v.onTup .no k = .ok r s') : ∃ l, v = .tup l ∧ k l = .ok r s' := by
  cases v <;> first | exact ⟨_, rfl, h⟩ | exact R.noConfusion h
theorem onFn_ok {k : Id → List AV → List AV → R} (h : v.onFn .no k = .ok r s') : ∃ g a b, v = .fn g a b ∧ k g a b = .ok r s' := by
  cases v <;> first | exact ⟨_, _, _, rfl, h⟩ | exact R.noConfusion h
theorem onPtr_ok {k : Id → Nat → R} {g : List AV → R} (h : v.onPtr .no k g = .ok r s') : (∃ b o, v = .ptr b o ∧ k b o = .ok r s') ∨ ∃ cs, v = .tp cs ∧ g cs = .ok r s' := by
  cases v <;> first | exact .inl ⟨_, _, rfl, h⟩ | exact .inr ⟨_, rfl, h⟩ | exact R.noConfusion h
theorem onSl_ok {d e : R} {k : Id → Nat → Nat → Nat → Nat → R} {g : List AV → Nat → Nat → Bool → R} (h : v.onSl d e k g = .ok r s') :
    (v = .nils ∧ e = .ok r s') ∨ (∃ b o l c x, v = .sl b o l c x ∧ k b o l c x = .ok r s') ∨ (∃ cs l c x, v = .ts cs l c x ∧ g cs l c x = .ok r s') ∨ (d = .ok r s' ∧ (v ≠ .nils)) := by
  cases v <;> first
    | exact .inl ⟨rfl, h⟩
    | exact .inr (.inl ⟨_, _, _, _, _, rfl, h⟩)
    | exact .inr (.inr (.inl ⟨_, _, _, _, rfl, h⟩))
    | exact .inr (.inr (.inr ⟨h, fun h => by cases h⟩))
theorem onMap_ok {d e : R} {k : Id → R} (h : v.onMap d e k = .ok r s') : (v = .nilm ∧ e = .ok r s') ∨ (∃ b, v = .map b ∧ k b = .ok r s') ∨ d = .ok r s' := by
  cases v <;> first | exact .inl ⟨rfl, h⟩ | exact .inr (.inl ⟨_, rfl, h⟩) | exact .inr (.inr h)
theorem onCells_ok {o : AO} {k : List AV → R} (h : o.onCells .no k = .ok r s') : ∃ cs, o = .cells cs ∧ k cs = .ok r s' := by
  cases o <;> first | exact ⟨_, rfl, h⟩ | exact R.noConfusion h
theorem onMapO_ok {o : AO} {k : List (AV × AV) → R} (h : o.onMap .no k = .ok r s') : ∃ es, o = .map es ∧ k es = .ok r s' := by
  cases o <;> first | exact ⟨_, rfl, h⟩ | exact R.noConfusion h
theorem br_ok {b : Bool} {x : R} (h : br b x .no = .ok r s') : b = true ∧ x = .ok r s' := by
  cases b <;> first | exact ⟨rfl, h⟩ | exact R.noConfusion h
theorem br_not_ok {b : Bool} {x : R} (h : br b .no x = .ok r s') : b = false ∧ x = .ok r s' := by
  cases b <;> first | exact ⟨rfl, h⟩ | exact R.noConfusion h
theorem idx_ok {n : Nat} {k : Nat → R} (h : v.idx n k = .ok r s') : ∃ (j : IntKind) (m : Nat), v = .int j (m : Int) ∧ m < n ∧ k m = .ok r s' := by
  obtain ⟨j, i, rfl, h⟩ := onInt_ok h
  cases i with
  | ofNat m => obtain ⟨h1, h2⟩ := br_ok h; exact ⟨j, m, rfl, Nat.le_of_ble_eq_true h1, h2⟩
  | negSucc m => exact R.noConfusion h
theorem bnd_ok {x : Option AV} {y d : Nat} {k : Nat → R} (h : bnd x y d k = .ok r s') : (x = none ∧ k d = .ok r s') ∨ ∃ (j : IntKind) (m : Nat), x = some (.int j (m : Int)) ∧ m ≤ y ∧ k m = .ok r s' := by
  cases x with
  | none => exact .inl ⟨rfl, h⟩
  | some v => obtain ⟨j, m, rfl, h1, h2⟩ := idx_ok (v := v) h; exact .inr ⟨j, m, rfl, by omega, h2⟩
theorem alloc_ok {s : St} {o : AO} {k : Id → St → R} (h : s.alloc o k = .ok r s') : ∃ s1 : St, s1.n.val = s.n.val + 1 ∧ (∀ c, s1.obj c = if c = s.n then o else s.obj c) ∧ k s.n s1 = .ok r s' := by
  rcases St.alloc_spec s o k with e | ⟨s1, h1, h2, e⟩
  · rw [e] at h; exact R.noConfusion h
  · rw [e] at h; exact ⟨s1, h1, h2, h⟩
end
@[simp] theorem br_true {β : Type} (x y : β) : br true x y = x := rfl
@[simp] theorem br_false {β : Type} (x y : β) : br false x y = y := rfl
theorem ok_inj {r v : AV} {s s' : St} (h : R.ok v s = R.ok r s') : v = r ∧ s = s' := by cases h; exact ⟨rfl, rfl⟩

/-! ### The model's side -/
section
variable {E : Env} {w : World}
theorem rv_bool {b : Bool} {v : Value} (h : RV E w (.bool b) v) : v = .bool b := by cases h; rfl
theorem rv_int {k : IntKind} {n : Int} {v : Value} (h : RV E w (.int k n) v) : v = .int k n := by cases h; rfl
theorem rv_str {l : List UInt8} {v : Value} (h : RV E w (.str l) v) : ∃ x : ByteArray, v = .string x ∧ x.data.toList = l := by cases h with | str _ x e => exact ⟨x, rfl, e⟩
theorem rv_agg {l : List AV} {v : Value} (h : RV E w (.agg l) v) : ∃ us : List Value, v = .agg us.toArray ∧ RL E w l us ∧ ∀ c ∈ l, c.one = true := by
  cases h with | agg _ us hl hr h1 => exact ⟨us, rfl, ⟨hl, hr⟩, h1⟩
theorem rv_tup {l : List AV} {v : Value} (h : RV E w (.tup l) v) : ∃ us : List Value, v = .tuple us.toArray ∧ RL E w l us := by
  cases h with | tup _ us hl hr => exact ⟨us, rfl, ⟨hl, hr⟩⟩
theorem rv_undef {v : Value} (h : RV E w undef v) : v = Go.undef := by
  obtain ⟨us, rfl, hu⟩ := rv_tup h
  have : us = [] := List.eq_nil_of_length_eq_zero (by simpa using hu.len)
  subst this; rfl
theorem RV.one {c : AV} {v : Value} (h : RV E w c v) (h1 : c.one = true) : v.oneCell' = true := by
  cases h <;> first | rfl | cases h1
end
theorem run_sizeOf {t : TypeId} {n : Nat} (h : sizeAt P t = some n) (w : World) : (sizeOf t).run P w = .ok n w := by
  simp only [sizeAt, Option.map_eq_some_iff] at h
  obtain ⟨i, hi, rfl⟩ := h
  simp [sizeOf, typeInfo, hi]
theorem run_isAgg {t : TypeId} {b : Bool} (h : aggAt P t = some b) (w : World) : (isAgg t).run P w = .ok b w := by
  simp only [aggAt, Option.bind_eq_bind, Option.bind_eq_some_iff] at h
  obtain ⟨d, hd, h⟩ := h
  simp only [isAgg, Sem.run_bind, run_underlying hd, Result.andThen_ok]
  cases d <;> simp_all
theorem addr_add (g o n : Nat) : (⟨g, o, none⟩ : Addr).add n = ⟨g, o + n, none⟩ := by
  unfold Addr.add; split <;> simp_all
/-- A variable read: its cells lie there. -/
theorem run_loadVar {t : TypeId} {agg : Bool} {sz : Nat} (ha : aggAt P t = some agg) (hs : sizeAt P t = some sz) {E : Env} {w : World} {cs : List AV} {us : List Value} {g off : Nat} {r : AV} {s s' : St}
    (hrow : RL E w cs us) (hc : ∀ (j : Nat) (u : Value), us[j]? = some u → w.cell? ⟨g, off + j, none⟩ = some u) (h1 : ∀ c ∈ cs, c.one = true) (h : wrap1 agg sz cs s = .ok r s') :
    s = s' ∧ ∃ v, (loadVar t ⟨g, off, none⟩).run P w = .ok v w ∧ RV E w r v := by
  cases agg with
  | false =>
    cases cs with
    | nil => exact R.noConfusion h
    | cons c cs =>
      obtain ⟨rfl, rfl⟩ := ok_inj h
      obtain ⟨u, us, rfl, h2, _⟩ := hrow.cons_inv
      refine ⟨rfl, u, ?_, h2⟩
      have := hc 0 u rfl
      simp only [Nat.add_zero] at this
      simp [loadVar, run_isAgg ha, this]
  | true =>
    obtain ⟨h2, h3⟩ := br_ok h
    obtain ⟨rfl, rfl⟩ := ok_inj h3
    have hl : (cs.take sz).length = sz := by have := Nat.eq_of_beq_eq_true h2; rwa [ln_eq, tk_eq] at this
    have hu : (us.take sz).length = sz := by rw [(hrow.take sz).len, hl]
    refine ⟨rfl, .agg (us.take sz).toArray, ?_, ?_⟩
    · have := run_loadCells_list (P := P) (w := w) ⟨g, off, none⟩ (us.take sz) (fun j v hj => by
        rw [addr_add]; rw [List.getElem?_take] at hj; split at hj
        · exact hc j v hj
        · cases hj)
      rw [hu] at this
      simp [loadVar, run_isAgg ha, run_sizeOf hs, this]
    · rw [tk_eq]
      exact .agg _ _ (hrow.take sz).len (hrow.take sz).each (fun c hc => h1 c (List.mem_of_mem_take hc))
theorem holds_cell {E : Env} {w : World} {b : Id} {cs : List AV} {c : Array Value} {e : TypeId} {us : List Value} (H : Holds E w b cs c e us) (j : Nat) (u : Value) (h : us[j]? = some u) :
    w.cell? ⟨(E.φ b).block, (E.φ b).off + j, none⟩ = some u := by
  simp [World.cell?, H.heap, H.at_ j u h]

/-! ### Operations -/
section
variable {E : Env} {w : World} {nt : Nat} {f : Fr AV} {a : Act} {s s' : St} {r : AV} {call : CallT} {n n' : Nat} {o : Oper} {x y z : Operand} {cx cy cz : CO}
theorem s_mv (ho : o.op = .move x ∨ o.op = .assign x) (hx : cod x = some cx) (rf : RF E w nt f a) (rh : RelH s.obj E w) (h : opMv cx call f s = .ok r s') : s' = s ∧ Out P (execOp a.eval o) n n' s.obj E w r s.obj := by
  obtain ⟨rfl, rfl⟩ := ok_inj h
  refine ⟨rfl, .same (v := a.eval x) ?_ rh (cod_rv hx rf)⟩
  rcases ho with ho | ho <;> simp [execOp, ho]
theorem s_pick (ho : o.op = .pick x y z) (hx : cod x = some cx) (hy : cod y = some cy) (hz : cod z = some cz) (rf : RF E w nt f a) (rh : RelH s.obj E w) (h : opPick cx cy cz call f s = .ok r s') : s' = s ∧ Out P (execOp a.eval o) n n' s.obj E w r s.obj := by
  obtain ⟨b, hb, h⟩ := onBool_ok h
  obtain ⟨rfl, rfl⟩ := ok_inj h
  have h1 := cod_rv hx rf
  rw [hb] at h1
  have h2 := rv_bool h1
  cases b with
  | true => exact ⟨rfl, .same (v := a.eval y) (by simp [execOp, ho, h2, asBool]) rh (cod_rv hy rf)⟩
  | false => exact ⟨rfl, .same (v := a.eval z) (by simp [execOp, ho, h2, asBool]) rh (cod_rv hz rf)⟩
theorem s_nilck (ho : o.op = .nilCheck x) (hx : cod x = some cx) (rf : RF E w nt f a) (rh : RelH s.obj E w) (h : opNilck cx call f s = .ok r s') : s' = s ∧ Out P (execOp a.eval o) n n' s.obj E w r s.obj := by
  have h1 := cod_rv hx rf
  unfold opNilck at h
  generalize ev1 f cx = v at h h1
  generalize hu : a.eval x = u at h1
  have key : (execOp a.eval o).run P w = .ok (.value u) w ∧ s' = s ∧ r = v := by
    cases h1 <;> first
      | exact R.noConfusion h
      | (obtain ⟨rfl, rfl⟩ := ok_inj h; exact ⟨by simp [execOp, ho, hu], rfl, rfl⟩)
  obtain ⟨k1, rfl, rfl⟩ := key
  exact ⟨rfl, .same k1 rh h1⟩
theorem s_load {t : TypeId} {agg : Bool} {sz : Nat} (ho : o.op = .load t x) (ha : aggAt P t = some agg) (hs : sizeAt P t = some sz) (hx : cod x = some cx) (rf : RF E w nt f a) (rh : RelH s.obj E w)
    (h : opLoad agg sz cx call f s = .ok r s') : s' = s ∧ Out P (execOp a.eval o) n n' s.obj E w r s.obj := by
  have h1 := cod_rv hx rf
  rcases onPtr_ok h with ⟨b, off, hv, h⟩ | ⟨cs, hv, h⟩
  · rw [hv] at h1
    obtain ⟨cs, hcs, h⟩ := onCells_ok h
    obtain ⟨c, e, us, H⟩ := rh.cells b cs hcs
    generalize hu : a.eval x = u at h1
    cases h1 with | ptr _ _ hD =>
    rw [dr_eq] at h
    obtain ⟨rfl, v, h2, h3⟩ := run_loadVar ha hs (g := (E.φ b).block) (off := (E.φ b).off + off) (H.row.drop off) (fun j u hj => by
      rw [List.getElem?_drop] at hj; rw [Nat.add_assoc]; exact holds_cell H _ u hj) (fun c hc => H.one c (List.mem_of_mem_drop hc)) h
    exact ⟨rfl, .same (v := v) (by simp [execOp, ho, hu, Instr.loadAt, Instr.sureAddr, h2]) rh h3⟩
  · rw [hv] at h1
    generalize hu : a.eval x = u at h1
    cases h1 with | tp _ g off us hI hl hc hr ho1 =>
    obtain ⟨rfl, v, h2, h3⟩ := run_loadVar ha hs (g := g) (off := off) ⟨hl, hr⟩ hc ho1 h
    exact ⟨rfl, .same (v := v) (by simp [execOp, ho, hu, Instr.loadAt, Instr.sureAddr, h2]) rh h3⟩
end
end Go.Vm
