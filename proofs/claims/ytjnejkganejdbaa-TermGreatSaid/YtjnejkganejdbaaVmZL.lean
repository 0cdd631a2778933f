/- The abstract machine: a map's entries one by one, in whatever order. No condition. -/
import Derived.Test.YtjnejkganejdbaaVmZJ
namespace Go.Vm
set_option linter.unusedVariables false
variable {P : Program}
/-! ### What the model does -/
theorem run_range {t kt e : TypeId} (ht : P.underlying t = some (.map kt e)) {w : World} {k : Nat} {ms : Array MapEntry} {cl : Nat} (hm : w.heap[k]? = some (.map ms cl)) :
    (Instr.range t (.map (some k))).run P w = .ok (.pointer (some ⟨w.heap.size, 0, none⟩)) (w.alloc (.mapIter (some k) cl #[] cl)) := by
  have hgo : (getObj k).run P w = .ok (.map ms cl) w := by simp [getObj, Sem.run, hm]
  simp [Instr.range, run_underlying ht, hgo]
/-- The entries that are left. -/
def left (ms : Array MapEntry) (seen : Array Nat) : Array MapEntry := ms.filter fun a => !decide (a.born ∈ seen)
theorem next_old {ms : Array MapEntry} {cl : Nat} (hb : Born ms cl) (seen : Array Nat) : ms.filter (fun a => decide (a.born < cl) && !decide (a.born ∈ seen)) = left ms seen := by
  unfold left
  apply Array.toList_inj.mp
  rw [Array.toList_filter, Array.toList_filter]
  refine List.filter_congr fun a ha => ?_
  obtain ⟨i, hi, rfl⟩ := Array.mem_iff_getElem.mp (Array.mem_toList_iff.mp ha)
  have := hb.lt i _ (Array.getElem?_eq_getElem hi)
  simp [this]
theorem next_new {ms : Array MapEntry} {cl : Nat} (hb : Born ms cl) (seen : Array Nat) : ms.filter (fun a => decide (cl ≤ a.born) && !decide (a.born ∈ seen)) = #[] := by
  rw [Array.filter_eq_empty_iff]
  intro a ha
  obtain ⟨i, hi, rfl⟩ := Array.mem_iff_getElem.mp ha
  have := hb.lt i _ (Array.getElem?_eq_getElem hi)
  simp; omega
theorem next_run {w : World} {r k : Nat} {ms : Array MapEntry} {cl : Nat} {seen : Array Nat} (hi : w.heap[r]? = some (.mapIter (some k) cl seen cl)) (hm : w.heap[k]? = some (.map ms cl)) (hb : Born ms cl) (t : TypeId) :
    (left ms seen = #[] ∧ (Instr.next (.pointer (some ⟨r, 0, none⟩)) false t).run P w = .ok (.tuple #[.bool false]) w) ∨
    ∃ e ∈ left ms seen, ∃ w' : World, w'.heap = w.heap.setIfInBounds r (.mapIter (some k) cl (seen.push e.born) cl) ∧ w'.os = w.os ∧ w'.tape = w.tape ∧ w'.output = w.output ∧
      (Instr.next (.pointer (some ⟨r, 0, none⟩)) false t).run P w = .ok (.tuple #[.bool true, e.key, e.val]) w' := by
  have hgo : (getObj k).run P w = .ok (.map ms cl) w := by simp [getObj, Sem.run, hm]
  have hgi : (getObj r).run P w = .ok (.mapIter (some k) cl seen cl) w := by simp [getObj, Sem.run, hi]
  have hc : ¬ ((¬seen = #[] ∧ ¬ms = #[]) ∧ ∀ (i : Nat) (x : i < ms.size), cl ≤ ms[i].born) := by
    rintro ⟨⟨_, h1⟩, h2⟩
    have h0 : 0 < ms.size := by
      rcases Nat.eq_zero_or_pos ms.size with h | h
      · exact absurd (Array.eq_empty_of_size_eq_zero h) h1
      · exact h
    have := hb.lt 0 _ (Array.getElem?_eq_getElem h0)
    have := h2 0 h0
    omega
  have he : (∀ (a : MapEntry), a ∈ ms → a.born < cl → a.born ∈ seen) ↔ left ms seen = #[] := by
    unfold left
    rw [Array.filter_eq_empty_iff]
    constructor
    · intro h a ha
      obtain ⟨i, hi', rfl⟩ := Array.mem_iff_getElem.mp ha
      have := h _ ha (hb.lt i _ (Array.getElem?_eq_getElem hi'))
      simp [this]
    · intro h a ha _
      have := h a ha
      simpa using this
  have hset : ∀ (v : World) (o : Obj), v.heap = w.heap → (setObj r o).run P v = .ok () { v with heap := v.heap.setIfInBounds r o } := by
    intro v o hv
    have : v.heap[r]? = some (.mapIter (some k) cl seen cl) := by rw [hv]; exact hi
    simp [setObj, Sem.run, this]
  by_cases hl : left ms seen = #[]
  · refine .inl ⟨hl, ?_⟩
    simp [Instr.next, hgi, hgo, hc, next_old hb, next_new hb, he, hl, Question.forced]
  · refine .inr ?_
    have hpos : 0 < (left ms seen).size := by
      rcases Nat.eq_zero_or_pos (left ms seen).size with h | h
      · exact absurd (Array.eq_empty_of_size_eq_zero h) hl
      · exact h
    simp only [Instr.next]
    simp [hgi, hgo, hc, next_old hb, next_new hb, he, hl]
    have fin : ∀ (i : Nat) (v : World), i < (left ms seen).size → v.heap = w.heap → v.os = w.os → v.tape = w.tape → v.output = w.output →
        ∃ e, e ∈ left ms seen ∧ ∃ w' : World, w'.heap = w.heap.setIfInBounds r (.mapIter (some k) cl (seen.push e.born) cl) ∧ w'.os = w.os ∧ w'.tape = w.tape ∧ w'.output = w.output ∧
          Sem.run P (match Option.map some (left ms seen)[i]? with
            | some (some e) => (fun a => Value.tuple #[Value.bool true, e.key, e.val]) <$> setObj r (Obj.mapIter (some k) cl (seen.push e.born) cl)
            | some none => pure (Value.tuple #[Value.bool false])
            | none => stuck "Next: no such candidate") v = .ok (.tuple #[.bool true, e.key, e.val]) w' := by
      intro i v hiv h1 h2 h3 h4
      refine ⟨(left ms seen)[i], Array.getElem_mem hiv, { v with heap := v.heap.setIfInBounds r (.mapIter (some k) cl (seen.push (left ms seen)[i].born) cl) }, by rw [h1], h2, h3, h4, ?_⟩
      rw [Array.getElem?_eq_getElem hiv]
      simp [hset v _ h1]
    by_cases hf : (Question.mapNext (left ms seen).size).forced = true
    · simp only [hf, if_true]
      exact fin 0 w hpos rfl rfl rfl rfl
    · simp only [hf]
      refine fin _ w.drew ?_ rfl rfl rfl rfl
      exact Nat.mod_lt _ hpos
theorem find_left {ms : Array MapEntry} {cl : Nat} (hb : Born ms cl) {e : MapEntry} (he : e ∈ ms) : ms.find? (·.born == e.born) = some e := by
  obtain ⟨i, hi, rfl⟩ := Array.mem_iff_getElem.mp he
  rw [← Array.find?_toList]
  cases hf : ms.toList.find? (·.born == ms[i].born) with
  | none =>
    rw [List.find?_eq_none] at hf
    exact absurd (hf ms[i] (by simp)) (by simp)
  | some e' =>
    have h1 := List.find?_some hf
    have h2 := List.mem_of_find?_eq_some hf
    obtain ⟨j, hj, rfl⟩ := Array.mem_iff_getElem.mp (Array.mem_toList_iff.mp h2)
    have := hb.inj j i _ _ (Array.getElem?_eq_getElem hj) (Array.getElem?_eq_getElem hi) (by simpa using h1)
    subst this; rfl
theorem run_entry {w : World} {r k : Nat} {ms : Array MapEntry} {cl : Nat} {seen : Array Nat} {e : MapEntry} (he : e ∈ ms) (hi : w.heap[r]? = some (.mapIter (some k) cl (seen.push e.born) cl)) (hm : w.heap[k]? = some (.map ms cl)) (hb : Born ms cl) :
    (Instr.entry (.pointer (some ⟨r, 0, none⟩))).run P w = .ok (.tuple #[e.key, e.val]) w := by
  have hgo : (getObj k).run P w = .ok (.map ms cl) w := by simp [getObj, Sem.run, hm]
  have hgi : (getObj r).run P w = .ok (.mapIter (some k) cl (seen.push e.born) cl) w := by simp [getObj, Sem.run, hi]
  simp [Instr.entry, hgi, hgo, find_left hb he]
/-! ### A statement in the text's order, one operation -/
theorem one_good {call : CallT} (hsc : SoundCall P call) {nt : Nat} {ops : Array Oper} {Q : Exit → Act → World → Prop} {o : Oper} {l : List Oper} {cd : CD} {co : COp} (hcr : copR P nt ops o = some (.mk cd co .none)) {f : Fr AV} {s s' : St} {a : Act} {E : Env} {w : World} {v : AV}
    (rf : RF E w nt f a) (rel : Rel s E w) (hx : exop co call f s = .ok v s') (h : ∀ a' E' w', RF E' w' nt (putD cd v f) a' → Went s E w s' E' w' → wpList P ops Q l a' w') : wpList P ops Q (o :: l) a w := by
  simp only [copR, Option.bind_eq_bind, Option.bind_eq_some_iff, Option.some.injEq] at hcr
  obtain ⟨cd', hcd, co', hco, cg, hcg, he⟩ := hcr
  cases he
  have hdo := copD_ok hcd
  have hwe := wanted_eq hcg rf
  have hout : OpOut P o a s E w v s' := by
    have hg := exop_good (call := call) hco rf rel.h hx
    cases hk : co.kind with
    | quiet => rw [hk] at hg; obtain ⟨rfl, hg⟩ := hg; exact .of rel (Nat.le_refl _) (hg _ _)
    | read => rw [hk] at hg; obtain ⟨rfl, hg⟩ := hg; exact .of rel (Nat.le_refl _) (hg _ _)
    | alloc =>
      rw [hk] at hg
      obtain ⟨h1, h2⟩ := hg (rel.n s.n (Nat.le_refl _))
      exact .of rel (by omega) (by rw [h1]; exact h2)
    | «mut» => rw [hk] at hg; exact hg rel hsc
  refine wpList_step (fun K hK => ?_)
  rw [if_pos (by rw [hwe]; rfl)]
  refine hout.2 K _ (fun E' w' u h1 h2 h3 => hK _ _ ?_)
  have hw2 : Went s E w s' E' w' := ⟨h1, hout.1, h3⟩
  exact h _ E' w' ((rf.mono (hw2.toLe rel)).put hdo h2) hw2
/-- An operation that isn't the machine's own. -/
theorem own_good {ops : Array Oper} {Q : Exit → Act → World → Prop} {o : Oper} {l : List Oper} (hg : o.guard = none) {a : Act} {w w' : World} {v : Value}
    (hx : (execOp a.eval o).run P w = .ok (.value v) w') (h : wpList P ops Q l (a.put o.dst v) w') : wpList P ops Q (o :: l) a w := by
  refine wpList_plain hg (fun K hK => ?_)
  unfold Oper.wp
  rw [hx]
  exact hK _ _ h
/-- Operations in the text's order, whatever stands behind them. -/
theorem ops_goodQ {call : CallT} (hsc : SoundCall P call) {nt : Nat} {ops : Array Oper} {Q : Exit → Act → World → Prop} {l : List Oper} {cl : List CR} (hl : l.mapM (copR P nt ops) = some cl) (f : Fr AV) (s0 s : St) (a : Act) (E0 E : Env) (w0 w : World)
    (hw : Went s0 E0 w0 s E w) (rf : RF E w nt f a) (hne : exops call cl f s ≠ .no) (hQ : ∀ f' s' E' a' w', exops call cl f s = .nor f' s' → RF E' w' nt f' a' → Went s0 E0 w0 s' E' w' → Q .normal a' w') : wpList P ops Q l a w := by
  induction l generalizing cl f s a E w with
  | nil =>
    simp at hl; subst hl
    exact hQ f s E a w rfl rf hw
  | cons o l ih =>
    simp only [List.mapM_cons, Option.bind_eq_bind, Option.bind_eq_some_iff, Option.pure_def, Option.some.injEq] at hl
    obtain ⟨cr, hcr, cl, hcl, rfl⟩ := hl
    simp only [copR, Option.bind_eq_bind, Option.bind_eq_some_iff, Option.some.injEq] at hcr
    obtain ⟨cd, hcd, co, hco, cg, hcg, rfl⟩ := hcr
    have hdo := copD_ok hcd
    have hwe := wanted_eq hcg rf
    have e : exops call (.mk cd co cg :: cl) f s = br (wanted cg f) ((exop co call f s).on .no fun v s => exops call cl (putD cd v f) s) (exops call cl (putD cd undef f) s) := rfl
    rw [e] at hne hQ
    cases hwt : wanted cg f with
    | false =>
      rw [hwt, br_false] at hne hQ
      unfold wpList
      rw [if_neg (by rw [hwe, hwt]; simp)]
      exact ih hcl _ s _ E w hw (rf.put hdo (RV.undef E w)) hne hQ
    | true =>
      rw [hwt, br_true] at hne hQ
      cases hx : exop co call f s with
      | no => rw [hx] at hne; exact absurd rfl hne
      | ok v s' =>
        rw [hx] at hne hQ
        have hout : OpOut P o a s E w v s' := by
          have hg := exop_good (call := call) hco rf hw.rel.h hx
          cases hk : co.kind with
          | quiet => rw [hk] at hg; obtain ⟨rfl, hg⟩ := hg; exact .of hw.rel (Nat.le_refl _) (hg _ _)
          | read => rw [hk] at hg; obtain ⟨rfl, hg⟩ := hg; exact .of hw.rel (Nat.le_refl _) (hg _ _)
          | alloc =>
            rw [hk] at hg
            obtain ⟨h1, h2⟩ := hg (hw.rel.n s.n (Nat.le_refl _))
            exact .of hw.rel (by omega) (by rw [h1]; exact h2)
          | «mut» => rw [hk] at hg; exact hg hw.rel hsc
        refine wpList_step (fun K hK => ?_)
        rw [if_pos (by rw [hwe, hwt])]
        refine hout.2 K _ (fun E' w' u h1 h2 h3 => hK _ _ ?_)
        have hw2 : Went s E w s' E' w' := ⟨h1, hout.1, h3⟩
        exact ih hcl _ s' _ E' w' (hw.trans hw2) ((rf.mono (hw2.toLe hw.rel)).put hdo h2) hne hQ
end Go.Vm
