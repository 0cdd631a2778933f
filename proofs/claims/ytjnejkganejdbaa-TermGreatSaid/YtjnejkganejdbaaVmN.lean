/- The abstract machine is sound: literals, maps written, appending. No condition. -/
import Derived.Test.YtjnejkganejdbaaVmM
import Derived.Great.FillDense
import Derived.Great.BuildSlice
namespace Go.Vm
set_option linter.unusedVariables false
variable {P : Program}
section
variable {E : Env} {w : World} {nt : Nat} {f : Fr AV} {a : Act} {s s' : St} {r : AV} {call : CallT} {n n' : Nat} {o : Oper} {x y z : Operand} {cx cy cz : CO}
/-! ### Literals -/
theorem fill_ok (place : Nat → Option (Nat × Nat)) (rf : RF E w nt f a) {ps : List (Nat × Operand)} {cps : List Part} (hp : partsAt place ps = some cps) {l : List AV} {cells : Array Value} (hrow : RL E w l cells.toList) (h1 : ∀ c ∈ l, c.one = true) {k : List AV → R}
    (h : fill f cps l k = .ok r s') : ∃ l' cells', Instr.fill place cells (ps.map fun p => (p.1, a.eval p.2)) = some cells' ∧ RL E w l' cells'.toList ∧ (∀ c ∈ l', c.one = true) ∧ l'.length = l.length ∧ k l' = .ok r s' := by
  induction ps generalizing cps l cells with
  | nil =>
    simp only [partsAt, Option.some.injEq] at hp
    subst hp
    exact ⟨l, cells, rfl, hrow, h1, rfl, h⟩
  | cons p ps ih =>
    obtain ⟨i, x⟩ := p
    simp only [partsAt, Option.bind_eq_bind, Option.bind_eq_some_iff, Option.some.injEq] at hp
    obtain ⟨⟨off, sz⟩, hpl, c, hc, rest, hrest, rfl⟩ := hp
    have hv := cod_rv hc rf
    obtain ⟨m, hm, htup, hh⟩ := lay_ok (v := ev1 f c) (k := fun m => br (Nat.beq (ln m) sz) (br (Nat.ble (Nat.add off sz) (ln l)) (fill f rest (splice off m l) k) .no) .no) h
    obtain ⟨c1, hh⟩ := br_ok hh
    obtain ⟨c2, hh⟩ := br_ok hh
    obtain ⟨hvc, hvo⟩ := hv.cells htup
    rw [← hm] at hvc hvo
    have e1 : m.length = sz := by have := Nat.eq_of_beq_eq_true c1; rwa [ln_eq] at this
    have e2 : off + sz ≤ l.length := by have := Nat.le_of_ble_eq_true c2; rwa [ln_eq] at this
    have e3 : (a.eval x).cells.size = sz := by rw [← e1, ← hvc.len, Array.length_toList]
    have e4 : cells.size = l.length := by rw [← hrow.len, Array.length_toList]
    have hfold := Great.foldl_set off (a.eval x).cells.toList 0 cells
    generalize hcs' : ((a.eval x).cells.toList.zipIdx 0).foldl (fun cs (x : Value × Nat) => cs.setIfInBounds (off + x.2) x.1) cells = cells' at hfold
    have hcells : cells'.toList = splice off (a.eval x).cells.toList cells.toList := by
      apply List.ext_getElem?
      intro j
      rw [Array.getElem?_toList, hfold.2 j, splice_get]
      simp only [Nat.add_zero, Array.length_toList, e3, e4]
      by_cases hj : j < l.length
      · rw [if_pos hj]
        by_cases h2 : off ≤ j ∧ j < off + sz
        · rw [if_pos ⟨h2.1, h2.2, hj⟩, if_pos h2]
        · rw [if_neg (fun h => h2 ⟨h.1, h.2.1⟩), if_neg h2, Array.getElem?_toList]
      · rw [if_neg hj, if_neg (fun h => hj h.2.2), Array.getElem?_eq_none (by omega)]
    obtain ⟨l', cs', k1, k2, k3, k4, k5⟩ := ih hrest (l := splice off m l) (cells := cells') (by rw [hcells]; exact hrow.splice hvc off) (fun d hd => (splice_mem hd).elim (hvo d) (h1 d)) hh
    refine ⟨l', cs', ?_, k2, k3, by rw [k4, splice_length], k5⟩
    rw [← k1]
    have hz : (a.eval x).cells.zipIdx.foldl (fun cs (x : Value × Nat) => cs.setIfInBounds (off + x.2) x.1) cells = cells' := by
      rw [← hcs', ← Array.foldl_toList, Array.toList_zipIdx]
    simp only [List.map_cons, Instr.fill, hpl]
    rw [if_neg (by simp [e3, e4]; omega)]
    have hz' : (Array.foldl (fun cs x => match x with | (c, j) => cs.setIfInBounds (off + j) c) cells (a.eval x).cells.zipIdx) = cells' := hz
    rw [hz']
theorem s_build {t : TypeId} {fs : Array Field} {l : List AV} {places : List (Nat × Nat)} {ps : Array (Nat × Operand)} {cps : List Part} (hz : zeroAt P t = some l) (ht : P.underlying t = some (.struct fs)) (hpl : fs.toList.mapM (fun f => (P.info? f.type).map fun i => (f.offset, i.size)) = some places)
    (hp : partsAt (places.toArray[·]?) ps.toList = some cps) (ho : o.op = .build t ps) (rf : RF E w nt f a) (rh : RelH s.obj E w) (h : opBuild l cps call f s = .ok r s') : s' = s ∧ Out P (execOp a.eval o) n n' s.obj E w r s.obj := by
  obtain ⟨i, zv, hi, hzv, _, _, hrow⟩ := zeroAt_ok hz
  obtain ⟨l', cs', k1, k2, k3, _, k5⟩ := fill_ok _ rf hp (hrow E w).1 (hrow E w).2 h
  obtain ⟨rfl, rfl⟩ := ok_inj k5
  have hb : P.built t (ps.map fun (i, x) => (i, a.eval x)).toList = some cs' := by
    simp only [Program.built, hi, ht, hzv, hpl]
    rw [← k1]; congr 1; simp
  have hrun := run_build (P := P) w t (ps.map fun (i, x) => (i, a.eval x)) cs' hb
  refine ⟨rfl, .same (v := .agg cs') ?_ rh ?_⟩
  · simp only [execOp, ho]
    simp [hrun]
  · have := RV.agg (E := E) (w := w) l' cs'.toList k2.len k2.each k3
    simpa using this
theorem s_blit {t e : TypeId} {len sz : Nat} {l : List AV} {ps : Array (Nat × Operand)} {cps : List Part} (ht : P.underlying t = some (.slice e)) (hs : sizeAt P e = some sz) (hz : zeroAt P e = some l) (hlen : len * sz ≤ 16777216)
    (hp : partsAt (fun i => some (i * sz, sz)) ps.toList = some cps) (ho : o.op = .buildSlice t len ps) (rf : RF E w nt f a) (rh : RelH s.obj E w) (hf : ¬ E.D s.n)
    (h : opBlit len l cps call f s = .ok r s') : s'.n.val = s.n.val + 1 ∧ Out P (execOp a.eval o) s.n.val (s.n.val + 1) s.obj E w r s'.obj := by
  obtain ⟨i, zv, hi, hzv, hpos, hll, hrow⟩ := zeroAt_ok hz
  simp only [sizeAt, Option.map_eq_some_iff] at hs
  obtain ⟨i', hi', hs'⟩ := hs
  rw [hi] at hi'; cases hi'
  have hzs : zv.cells.size = sz := by rw [← hs', ← hll, ← (hrow E w).1.len, Array.length_toList]
  have hmade : (madeCells zv.cells (len * sz)).toList = reps len zv.cells.toList := by rw [← hzs]; exact madeCells_reps zv.cells len
  obtain ⟨l', cs', k1, k2, k3, k4, k5⟩ := fill_ok _ rf hp (l := reps len l) (cells := madeCells zv.cells (len * sz)) (by rw [hmade]; exact reps_rl (hrow E w).1 len) (reps_one (hrow E w).2 len) h
  obtain ⟨s1, hn, hs1, hh⟩ := alloc_ok k5
  obtain ⟨rfl, rfl⟩ := ok_inj hh
  have hrun : (Instr.buildSlice t len (ps.map fun (i, x) => (i, a.eval x))).run P w = .ok (.slice (some ⟨w.heap.size, 0, none⟩) len len) (w.alloc (.cells cs' e)) := by
    by_cases hl0 : len = 0
    · subst hl0
      have hps : ps.toList = [] := by
        cases hq : ps.toList with
        | nil => rfl
        | cons p r =>
          exfalso
          rw [hq] at k1
          simp only [List.map_cons, Instr.fill] at k1
          split at k1
          · cases k1
          · rename_i hc
            have h3 : (a.eval p.2).cells.size = sz := Decidable.byContradiction fun hne => hc (by simp [hne])
            have h4 : p.1 * sz + (a.eval p.2).cells.size ≤ 0 := Decidable.byContradiction fun hgt => hc (by
              rw [size_madeCells]
              have : p.1 * sz + (a.eval p.2).cells.size > 0 * sz := by omega
              simp only [this, decide_true, Bool.or_true])
            omega
      rw [hps] at k1
      have hcs : cs' = madeCells zv.cells (0 * sz) := by simpa [Instr.fill] using k1.symm
      have hps' : ps = #[] := by rw [← Array.toArray_toList (xs := ps), hps]
      subst hps'
      simp [Instr.buildSlice, run_underlying ht, sizeOf, typeInfo, hi, Instr.fill, newRow, hcs, madeCells, Array.range_zero']
    · have hne : ¬ len * i.size = 0 := by rw [hs']; exact Nat.mul_ne_zero hl0 (by omega)
      refine run_buildSlice w t e len _ cs' i zv ht hi hzv (by rw [hs']; omega) hne ?_
      rw [hs']
      have hmm : ((Array.range (len * sz)).map (zv.cells[· % zv.cells.size]!)) = madeCells zv.cells (len * sz) := rfl
      rw [hmm, ← k1]; congr 1; simp
  refine ⟨hn, Out.row (us := cs'.toList) (more := []) (w' := w.alloc (.cells cs' e)) (v := .slice (some ⟨w.heap.size, 0, none⟩) len len) (e := e) ?_ rh hf hs1 ?_ rfl rfl rfl k2 k3 (fun E' hle hD hφ => ?_)⟩
  · simp only [execOp, ho]
    simp [hrun]
  · simp [World.alloc, -World.alloc_eq]
  · have := RV.sl (E := E') (w := w.alloc (.cells cs' e)) s.n 0 len len len 0 hD (Nat.le_refl _) (Nat.le_refl _) (fun _ => rfl) (fun h => absurd rfl h)
    rwa [hφ] at this
end
end Go.Vm
