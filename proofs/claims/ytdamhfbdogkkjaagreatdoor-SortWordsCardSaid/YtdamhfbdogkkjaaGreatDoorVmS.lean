/- Loops over maps; calls told by what lies in memory. No condition. -/
import Derived.Test.YtdamhfbdogkkjaaGreatDoorVmQ
namespace Go.Vm
set_option linter.unusedVariables false
variable {P : Program}
/-! ### What the model does -/
theorem run_range {t kt e : TypeId} (ht : P.underlying t = some (.map kt e)) {w : World} {k : Nat} {ms : Array MapEntry} {cl : Nat} (hm : w.heap[k]? = some (.map ms cl)) :
    (Instr.range t (.map (some k))).run P w = .ok (.pointer (some ⟨w.heap.size, 0, none⟩)) (w.alloc (.mapIter (some k) cl #[] cl)) := by
  have hgo : (getObj k).run P w = .ok (.map ms cl) w := by simp [getObj, Sem.run, hm]
  simp [Instr.range, run_underlying ht, hgo]
/-- The entries that are left. -/
def left (ms : Array MapEntry) (seen : Array Nat) : Array MapEntry := ms.filter fun a => !decide (a.born ∈ seen)
theorem next_old {ms : Array MapEntry} {cl : Nat} (hb : Born ms cl) (seen : Array Nat) : ms.filter (fun a => decide (a.born < cl) && !decide (a.born ∈ seen)) = left ms seen := by
  unfold left
  apply Array.toList_inj.mp
  rw [Array.toList_filter, Array.toList_filter]
  refine List.filter_congr fun a ha => ?_
  obtain ⟨i, hi, rfl⟩ := Array.mem_iff_getElem.mp (Array.mem_toList_iff.mp ha)
  have := hb.lt i _ (Array.getElem?_eq_getElem hi)
  simp [this]
theorem next_new {ms : Array MapEntry} {cl : Nat} (hb : Born ms cl) (seen : Array Nat) : ms.filter (fun a => decide (cl ≤ a.born) && !decide (a.born ∈ seen)) = #[] := by
  rw [Array.filter_eq_empty_iff]
  intro a ha
  obtain ⟨i, hi, rfl⟩ := Array.mem_iff_getElem.mp ha
  have := hb.lt i _ (Array.getElem?_eq_getElem hi)
  simp; omega
theorem next_run {w : World} {r k : Nat} {ms : Array MapEntry} {cl : Nat} {seen : Array Nat} (hi : w.heap[r]? = some (.mapIter (some k) cl seen cl)) (hm : w.heap[k]? = some (.map ms cl)) (hb : Born ms cl) (t : TypeId) :
    (left ms seen = #[] ∧ (Instr.next (.pointer (some ⟨r, 0, none⟩)) false t).run P w = .ok (.tuple #[.bool false]) w) ∨
    ∃ e ∈ left ms seen, ∃ w' : World, w'.heap = w.heap.setIfInBounds r (.mapIter (some k) cl (seen.push e.born) cl) ∧ w'.os = w.os ∧ w'.tape = w.tape ∧ w'.output = w.output ∧
      (Instr.next (.pointer (some ⟨r, 0, none⟩)) false t).run P w = .ok (.tuple #[.bool true, e.key, e.val]) w' := by
  have hgo : (getObj k).run P w = .ok (.map ms cl) w := by simp [getObj, Sem.run, hm]
  have hgi : (getObj r).run P w = .ok (.mapIter (some k) cl seen cl) w := by simp [getObj, Sem.run, hi]
  have hc : ¬ ((¬seen = #[] ∧ ¬ms = #[]) ∧ ∀ (i : Nat) (x : i < ms.size), cl ≤ ms[i].born) := by
    rintro ⟨⟨_, h1⟩, h2⟩
    have h0 : 0 < ms.size := by
      rcases Nat.eq_zero_or_pos ms.size with h | h
      · exact absurd (Array.eq_empty_of_size_eq_zero h) h1
      · exact h
    have := hb.lt 0 _ (Array.getElem?_eq_getElem h0)
    have := h2 0 h0
    omega
  have he : (∀ (a : MapEntry), a ∈ ms → a.born < cl → a.born ∈ seen) ↔ left ms seen = #[] := by
    unfold left
    rw [Array.filter_eq_empty_iff]
    constructor
    · intro h a ha
      obtain ⟨i, hi', rfl⟩ := Array.mem_iff_getElem.mp ha
      have := h _ ha (hb.lt i _ (Array.getElem?_eq_getElem hi'))
      simp [this]
    · intro h a ha _
      have := h a ha
      simpa using this
  have hset : ∀ (v : World) (o : Obj), v.heap = w.heap → (setObj r o).run P v = .ok () { v with heap := v.heap.setIfInBounds r o } := by
    intro v o hv
    have : v.heap[r]? = some (.mapIter (some k) cl seen cl) := by rw [hv]; exact hi
    simp [setObj, Sem.run, this]
  by_cases hl : left ms seen = #[]
  · refine .inl ⟨hl, ?_⟩
    simp [Instr.next, hgi, hgo, hc, next_old hb, next_new hb, he, hl, Question.forced]
  · refine .inr ?_
    have hpos : 0 < (left ms seen).size := by
      rcases Nat.eq_zero_or_pos (left ms seen).size with h | h
      · exact absurd (Array.eq_empty_of_size_eq_zero h) hl
      · exact h
    simp only [Instr.next]
    simp [hgi, hgo, hc, next_old hb, next_new hb, he, hl]
    have fin : ∀ (i : Nat) (v : World), i < (left ms seen).size → v.heap = w.heap → v.os = w.os → v.tape = w.tape → v.output = w.output →
        ∃ e, e ∈ left ms seen ∧ ∃ w' : World, w'.heap = w.heap.setIfInBounds r (.mapIter (some k) cl (seen.push e.born) cl) ∧ w'.os = w.os ∧ w'.tape = w.tape ∧ w'.output = w.output ∧
          Sem.run P (match Option.map some (left ms seen)[i]? with
            | some (some e) => (fun a => Value.tuple #[Value.bool true, e.key, e.val]) <$> setObj r (Obj.mapIter (some k) cl (seen.push e.born) cl)
            | some none => pure (Value.tuple #[Value.bool false])
            | none => stuck "Next: no such candidate") v = .ok (.tuple #[.bool true, e.key, e.val]) w' := by
      intro i v hiv h1 h2 h3 h4
      refine ⟨(left ms seen)[i], Array.getElem_mem hiv, { v with heap := v.heap.setIfInBounds r (.mapIter (some k) cl (seen.push (left ms seen)[i].born) cl) }, by rw [h1], h2, h3, h4, ?_⟩
      rw [Array.getElem?_eq_getElem hiv]
      simp [hset v _ h1]
    by_cases hf : (Question.mapNext (left ms seen).size).forced = true
    · simp only [hf, if_true]
      exact fin 0 w hpos rfl rfl rfl rfl
    · simp only [hf]
      refine fin _ w.drew ?_ rfl rfl rfl rfl
      exact Nat.mod_lt _ hpos
theorem find_left {ms : Array MapEntry} {cl : Nat} (hb : Born ms cl) {e : MapEntry} (he : e ∈ ms) : ms.find? (·.born == e.born) = some e := by
  obtain ⟨i, hi, rfl⟩ := Array.mem_iff_getElem.mp he
  rw [← Array.find?_toList]
  cases hf : ms.toList.find? (·.born == ms[i].born) with
  | none =>
    rw [List.find?_eq_none] at hf
    exact absurd (hf ms[i] (by simp)) (by simp)
  | some e' =>
    have h1 := List.find?_some hf
    have h2 := List.mem_of_find?_eq_some hf
    obtain ⟨j, hj, rfl⟩ := Array.mem_iff_getElem.mp (Array.mem_toList_iff.mp h2)
    have := hb.inj j i _ _ (Array.getElem?_eq_getElem hj) (Array.getElem?_eq_getElem hi) (by simpa using h1)
    subst this; rfl
theorem run_entry {w : World} {r k : Nat} {ms : Array MapEntry} {cl : Nat} {seen : Array Nat} {e : MapEntry} (he : e ∈ ms) (hi : w.heap[r]? = some (.mapIter (some k) cl (seen.push e.born) cl)) (hm : w.heap[k]? = some (.map ms cl)) (hb : Born ms cl) :
    (Instr.entry (.pointer (some ⟨r, 0, none⟩))).run P w = .ok (.tuple #[e.key, e.val]) w := by
  have hgo : (getObj k).run P w = .ok (.map ms cl) w := by simp [getObj, Sem.run, hm]
  have hgi : (getObj r).run P w = .ok (.mapIter (some k) cl (seen.push e.born) cl) w := by simp [getObj, Sem.run, hi]
  simp [Instr.entry, hgi, hgo, find_left hb he]
/-! ### A statement in the text's order, one operation -/
theorem one_good [Lay] {call : CallT} (hsc : SoundCall P call) {nt : Nat} {ops : Array Oper} {Q : Exit → Act → World → Prop} {o : Oper} {l : List Oper} {cd : CD} {co : COp} (hcr : copR P nt ops o = some (.mk cd co .none)) {f : Fr AV} {s s' : St} {a : Act} {E : Env} {w : World} {v : AV}
    (rf : RF E w nt f a) (rel : Rel s E w) (hx : exop co call f s = .ok v s') (h : ∀ a' E' w', RF E' w' nt (putD cd v f) a' → Went s E w s' E' w' → wpList P ops Q l a' w') : wpList P ops Q (o :: l) a w := by
  simp only [copR, Option.bind_eq_bind, Option.bind_eq_some_iff, Option.some.injEq] at hcr
  obtain ⟨cd', hcd, co', hco, cg, hcg, he⟩ := hcr
  cases he
  have hdo := copD_ok hcd
  have hwe := wanted_eq hcg rf
  have hout : OpOut P o a s E w v s' := by
    have hg := exop_good (call := call) hco rf rel.h hx
    cases hk : co.kind with
    | quiet => rw [hk] at hg; obtain ⟨rfl, hg⟩ := hg; exact .of rel (Nat.le_refl _) (hg _ _)
    | read => rw [hk] at hg; obtain ⟨rfl, hg⟩ := hg; exact .of rel (Nat.le_refl _) (hg _ _)
    | alloc =>
      rw [hk] at hg
      obtain ⟨h1, h2⟩ := hg (rel.n s.n (Nat.le_refl _))
      exact .of rel (by omega) (by rw [h1]; exact h2)
    | «mut» => rw [hk] at hg; exact hg rel hsc
  refine wpList_step (fun K hK => ?_)
  rw [if_pos (by rw [hwe]; rfl)]
  refine hout.2 K _ (fun E' w' u h1 h2 h3 => hK _ _ ?_)
  have hw2 : Went s E w s' E' w' := ⟨h1, hout.1, h3⟩
  exact h _ E' w' ((rf.mono (hw2.toLe rel)).put hdo h2) hw2
/-- An operation that isn't the machine's own. -/
theorem own_good {ops : Array Oper} {Q : Exit → Act → World → Prop} {o : Oper} {l : List Oper} (hg : o.guard = none) {a : Act} {w w' : World} {v : Value}
    (hx : (execOp a.eval o).run P w = .ok (.value v) w') (h : wpList P ops Q l (a.put o.dst v) w') : wpList P ops Q (o :: l) a w := by
  refine wpList_plain hg (fun K hK => ?_)
  unfold Oper.wp
  rw [hx]
  exact hK _ _ h
/-- Operations in the text's order, whatever stands behind them. -/
theorem ops_goodQ [Lay] {call : CallT} (hsc : SoundCall P call) {nt : Nat} {ops : Array Oper} {Q : Exit → Act → World → Prop} {l : List Oper} {cl : List CR} (hl : l.mapM (copR P nt ops) = some cl) (f : Fr AV) (s0 s : St) (a : Act) (E0 E : Env) (w0 w : World)
    (hw : Went s0 E0 w0 s E w) (rf : RF E w nt f a) (hne : exops call cl f s ≠ .no) (hQ : ∀ f' s' E' a' w', exops call cl f s = .nor f' s' → RF E' w' nt f' a' → Went s0 E0 w0 s' E' w' → Q .normal a' w') : wpList P ops Q l a w := by
  induction l generalizing cl f s a E w with
  | nil =>
    simp at hl; subst hl
    exact hQ f s E a w rfl rf hw
  | cons o l ih =>
    simp only [List.mapM_cons, Option.bind_eq_bind, Option.bind_eq_some_iff, Option.pure_def, Option.some.injEq] at hl
    obtain ⟨cr, hcr, cl, hcl, rfl⟩ := hl
    simp only [copR, Option.bind_eq_bind, Option.bind_eq_some_iff, Option.some.injEq] at hcr
    obtain ⟨cd, hcd, co, hco, cg, hcg, rfl⟩ := hcr
    have hdo := copD_ok hcd
    have hwe := wanted_eq hcg rf
    have e : exops call (.mk cd co cg :: cl) f s = br (wanted cg f) ((exop co call f s).on .no fun v s => exops call cl (putD cd v f) s) (exops call cl (putD cd undef f) s) := rfl
    rw [e] at hne hQ
    cases hwt : wanted cg f with
    | false =>
      rw [hwt, br_false] at hne hQ
      unfold wpList
      rw [if_neg (by rw [hwe, hwt]; simp)]
      exact ih hcl _ s _ E w hw (rf.put hdo (RV.undef E w)) hne hQ
    | true =>
      rw [hwt, br_true] at hne hQ
      cases hx : exop co call f s with
      | no => rw [hx] at hne; exact absurd rfl hne
      | ok v s' =>
        rw [hx] at hne hQ
        have hout : OpOut P o a s E w v s' := by
          have hg := exop_good (call := call) hco rf hw.rel.h hx
          cases hk : co.kind with
          | quiet => rw [hk] at hg; obtain ⟨rfl, hg⟩ := hg; exact .of hw.rel (Nat.le_refl _) (hg _ _)
          | read => rw [hk] at hg; obtain ⟨rfl, hg⟩ := hg; exact .of hw.rel (Nat.le_refl _) (hg _ _)
          | alloc =>
            rw [hk] at hg
            obtain ⟨h1, h2⟩ := hg (hw.rel.n s.n (Nat.le_refl _))
            exact .of hw.rel (by omega) (by rw [h1]; exact h2)
          | «mut» => rw [hk] at hg; exact hg hw.rel hsc
        refine wpList_step (fun K hK => ?_)
        rw [if_pos (by rw [hwe, hwt])]
        refine hout.2 K _ (fun E' w' u h1 h2 h3 => hK _ _ ?_)
        have hw2 : Went s E w s' E' w' := ⟨h1, hout.1, h3⟩
        exact ih hcl _ s' _ E' w' (hw.trans hw2) ((rf.mono (hw2.toLe hw.rel)).put hdo h2) hne hQ
end Go.Vm
namespace Go.Vm
set_option linter.unusedVariables false
variable {P : Program}
theorem left_less {ms : Array MapEntry} {seen : Array Nat} {e : MapEntry} (he : e ∈ left ms seen) : (left ms (seen.push e.born)).size < (left ms seen).size := by
  have h1 : left ms (seen.push e.born) = (left ms seen).filter fun a => !decide (a.born = e.born) := by
    unfold left
    rw [Array.filter_filter]
    congr 1
    funext a
    simp only [Array.mem_push, Bool.decide_or, Bool.not_or]
    rw [Bool.and_comm]
  have e2 : ((left ms seen).filter fun a => !decide (a.born = e.born)).size = ((left ms seen).toList.filter fun a => !decide (a.born = e.born)).length := by rw [← Array.toList_filter, Array.length_toList]
  rw [h1, e2, ← Array.length_toList]
  refine List.length_filter_lt_length_iff_exists.mpr ⟨e, Array.mem_toList_iff.mpr he, by simp⟩
theorem rel_poke {o : Id → AO} {E : Env} {w w' : World} (h : RelH o E w) (hle : Le E w E w') (hold : ∀ b, o b ≠ .dead → w'.heap[(E.φ b).block]? = w.heap[(E.φ b).block]?) (hsz : w.heap.size ≤ w'.heap.size) : RelH o E w' where
  cells b cs hb := by
    have hne : o b ≠ .dead := by rw [hb]; intro h; cases h
    obtain ⟨c, e, us, H⟩ := h.cells b cs hb
    exact ⟨c, e, us, by rw [hold b hne]; exact H.heap, H.row.mono hle, H.at_, H.one⟩
  map b es hb := by
    have hne : o b ≠ .dead := by rw [hb]; intro h; cases h
    obtain ⟨ms, cl, H⟩ := h.map b es hb
    exact ⟨ms, cl, by rw [hold b hne]; exact H.heap, H.keys.mono hle, H.vals.mono hle, H.born⟩
  old := h.old
  inj := h.inj
  apart := h.apart
  seen k hk := Nat.lt_of_lt_of_le (h.seen k hk) hsz
noncomputable def onlyNor (r : RC) : RC := r.on .no .nor (fun _ _ _ => .no) fun _ _ => .no
/-- A loop over a map's entries, as the translator writes it. -/
structure Turning (P : Program) (nt : Nat) where
  id5 : Nat
  id6 : Nat
  id0 : Nat
  id1 : Nat
  ops5 : Array Oper
  ops6 : Array Oper
  o2 : Oper
  o4 : Oper
  l5 : List Oper
  l6 : List Oper
  it : Tmp
  nx : CD
  en : CD
  c5 : List CR
  c6 : List CR
  cnd : Operand
  b : CO
  C7 : Code
  c7 : CC
  hit : it < 256
  h5 : ops5.toList = o2 :: l5
  hop2 : o2.op = .next (.tmp it) false
  hg2 : o2.guard = none
  hd2 : copD nt o2.dst = some nx
  hc5 : l5.mapM (copR P nt ops5) = some c5
  h6 : ops6.toList = o4 :: l6
  hop4 : o4.op = .entry (.tmp it)
  hg4 : o4.guard = none
  hd4 : copD nt o4.dst = some en
  hc6 : l6.mapM (copR P nt ops6) = some c6
  hb : cod cnd = some b
  h7 : cc P nt C7 = some c7
section
variable {nt : Nat} (T : Turning P nt)
def Turning.code : Code := .seq (.region T.id5 T.ops5 false) (.seq (.cond T.cnd .skip (.exit T.id0)) (.block T.id1 (.seq (.region T.id6 T.ops6 false) T.C7)))
noncomputable def isIt (it : Tmp) (ib : Id) (f : Fr AV) : Bool := ((Sl.ofNat it).get f).onPtr false (fun b o => decide (b = ib) && o == 0) fun _ => false
theorem isIt_ok {it : Tmp} {ib : Id} {f : Fr AV} (h : isIt it ib f = true) : (Sl.ofNat it).get f = .ptr ib 0 := by
  unfold isIt at h
  cases hq : (Sl.ofNat it).get f <;> rw [hq] at h <;> first | (cases h; done) | skip
  rename_i b o
  have h' : (decide (b = ib) && o == 0) = true := h
  simp only [Bool.and_eq_true, decide_eq_true_eq, beq_iff_eq] at h'
  rw [h'.1, h'.2]
variable (call : CallT) (n : Nat) (ib : Id)
noncomputable def Turning.turn (k v : AV) (f : Fr AV) (s : St) : RC :=
  br (isIt T.it ib f) (seqK (fun f s => (ev1 f T.b).onBool .no fun t => br t (br (isIt T.it ib f) (onlyNor (blockK T.id1 (seqK (excode call n T.c7) (exops call T.c6 (putD T.en (.tup [k, v]) f) s)))) .no) .no)
    (exops call T.c5 (putD T.nx (.tup [.bool true, k, v]) f) s)) .no
noncomputable def Turning.last (f : Fr AV) (s : St) : RC :=
  br (isIt T.it ib f) (seqK (fun f s => (ev1 f T.b).onBool .no fun t => br t .no (.nor f s)) (exops call T.c5 (putD T.nx (.tup [.bool false]) f) s)) .no
noncomputable def Turning.turns : List (AV × AV) → Fr AV → St → RC
  | [], f, s => T.last call ib f s
  | e :: p, f, s => seqK (Turning.turns p) (T.turn call n ib e.1 e.2 f s)
end
/-- An order of what is left. -/
def Ord (ms : Array MapEntry) (seen : Array Nat) (q : List Nat) : Prop := (∀ i, i ∈ q ↔ ∃ e, ms[i]? = some e ∧ e.born ∉ seen) ∧ q.Nodup
noncomputable def nthE (es : List (AV × AV)) (i : Nat) : AV × AV := es.getD i (undef, undef)
structure Pos [Lay] (s0 : St) (E0 : Env) (w0 : World) (ib : Id) (r k : Nat) (ms : Array MapEntry) (cl : Nat) (s : St) (E : Env) (w : World) (seen : Array Nat) : Prop where
  went : Went s0 E0 w0 s E w
  D : E.D ib
  φ : E.φ ib = ⟨r, 0, none⟩
  it : w.heap[r]? = some (.mapIter (some k) cl seen cl)
  map : w.heap[k]? = some (.map ms cl)
  free : ∀ b, s.obj b ≠ .dead → (E.φ b).block ≠ r ∧ (E.φ b).block ≠ k
  notI : ¬ E.I r
section
variable {s0 : St} {E0 : Env} {w0 : World} {ib : Id} {r k : Nat} {ms : Array MapEntry} {cl : Nat}
theorem Pos.next [Lay] {s s' : St} {E E' : Env} {w w' : World} {seen : Array Nat} (p : Pos s0 E0 w0 ib r k ms cl s E w seen) (h : Went s E w s' E' w') : Pos s0 E0 w0 ib r k ms cl s' E' w' seen := by
  have hr : r < w.heap.size := (Array.getElem?_eq_some_iff.mp p.it).1
  have hk : k < w.heap.size := (Array.getElem?_eq_some_iff.mp p.map).1
  refine ⟨p.went.trans h, h.ext.D _ p.D, by rw [h.ext.φ _ p.D]; exact p.φ, by rw [h.ext.keep r hr (fun b hb => (p.free b hb).1)]; exact p.it, by rw [h.ext.keep k hk (fun b hb => (p.free b hb).2)]; exact p.map, fun b hb => ?_, fun hI => ?_⟩
  · rcases h.ext.new b hb with ⟨c, hc, e⟩ | hge
    · rw [← e]; exact p.free c hc
    · omega
  · rcases h.ext.seen r hI with h1 | h1 | ⟨b, hb, e⟩
    · exact p.notI h1
    · omega
    · exact (p.free b hb).1 e
theorem Pos.poke [Lay] {s : St} {E : Env} {w w' : World} {seen seen' : Array Nat} (hr0 : w0.heap.size ≤ r) (p : Pos s0 E0 w0 ib r k ms cl s E w seen) (hh : w'.heap = w.heap.setIfInBounds r (.mapIter (some k) cl seen' cl)) (ho : w'.os = w.os) (ht : w'.tape = w.tape) (hu : w'.output = w.output) :
    Pos s0 E0 w0 ib r k ms cl s E w' seen' ∧ Le E w E w' := by
  have hr : r < w.heap.size := (Array.getElem?_eq_some_iff.mp p.it).1
  have hot : ∀ j, j ≠ r → w'.heap[j]? = w.heap[j]? := fun j hj => by rw [hh]; simp [Ne.symm hj]
  have hsz : w'.heap.size = w.heap.size := by rw [hh]; simp
  have hsh : Shaped w w' := fun j c e fr hj => by
    by_cases hjr : j = r
    · subst hjr; rw [p.it] at hj; cases hj
    · exact ⟨c, fr, by rw [hot j hjr]; exact hj, rfl⟩
  have hle : Le E w E w' := ⟨fun _ h => h, fun _ _ => rfl, fun _ h => h, fun j hj => hot j (fun e => p.notI (by rw [← e]; exact hj)), hsh⟩
  have hkr : k ≠ r := fun e => by have := p.it; rw [← e, p.map] at this; cases this
  have x := p.went.ext
  refine ⟨⟨⟨⟨p.went.rel.n, rel_poke p.went.rel.h hle (fun b hb => hot _ (p.free b hb).1) (by omega), p.went.rel.laid.le hle⟩, p.went.le, ?_⟩, p.D, p.φ, by rw [hh]; simp [hr], by rw [hot k hkr]; exact p.map, p.free, p.notI⟩, hle⟩
  exact ⟨x.D, x.φ, x.ids, x.I, x.seen, ho.trans x.os, ht.trans x.tape, hu.trans x.output, by rw [hsz]; exact x.size, fun j hj hb => by rw [hot j (by omega)]; exact x.keep j hj hb, x.shape.trans hsh, x.new⟩
theorem code_ok [Lay] {call : CallT} (hsc : SoundCall P call) (hdr : DrawnOk P call) (n : Nat) {nt : Nat} {c : Code} {c' : CC} (hc : cc P nt c = some c') {f : Fr AV} {s : St} {a : Act} {E : Env} {w : World} (rf : RF E w nt f a) (rel : Rel s E w) (hne : excode call n c' f s ≠ .no) :
    c.wp P (CodePost nt s E w (excode call n c' f s)) a w := code_good hsc hdr n c c' hc f s a E w rf rel hne
theorem isIt_val {nt : Nat} {it : Tmp} {f : Fr AV} {E : Env} {w : World} {a : Act} (hit : it < 256) (h : isIt it ib f = true) (rf : RF E w nt f a) (hφ : E.φ ib = ⟨r, 0, none⟩) : a.eval (.tmp it) = .pointer (some ⟨r, 0, none⟩) := by
  have h1 := rf.slot it hit
  rw [isIt_ok h] at h1
  show a.tmps.getD it Go.undef = _
  generalize a.tmps.getD it Go.undef = u at h1
  cases h1
  rw [hφ]
theorem left_iff {seen : Array Nat} {e : MapEntry} : e ∈ left ms seen ↔ e ∈ ms ∧ e.born ∉ seen := by
  unfold left
  rw [Array.mem_filter]; simp
theorem ord_cons (hb : Born ms cl) {seen : Array Nat} {e : MapEntry} {i : Nat} (hi : ms[i]? = some e) (he : e.born ∉ seen) {q : List Nat} (h : Ord ms (seen.push e.born) q) : Ord ms seen (i :: q) := by
  refine ⟨fun j => ⟨fun hj => ?_, fun ⟨e', h1, h2⟩ => ?_⟩, List.nodup_cons.mpr ⟨fun hq => ?_, h.2⟩⟩
  · rcases List.mem_cons.mp hj with rfl | hj
    · exact ⟨e, hi, he⟩
    · obtain ⟨e', h1, h2⟩ := (h.1 j).mp hj
      exact ⟨e', h1, fun hs => h2 (Array.mem_push.mpr (.inl hs))⟩
  · by_cases hbb : e'.born = e.born
    · rw [hb.inj j i e' e h1 hi hbb]; exact List.mem_cons_self
    · exact List.mem_cons_of_mem _ ((h.1 j).mpr ⟨e', h1, fun hs => (Array.mem_push.mp hs).elim h2 hbb⟩)
  · obtain ⟨e', h1, h2⟩ := (h.1 i).mp hq
    rw [hi] at h1; cases h1
    exact h2 (Array.mem_push.mpr (.inr rfl))
theorem ord_some (seen : Array Nat) : ∃ q, Ord ms seen q := by
  refine ⟨(List.range ms.size).filter fun i => (ms[i]?).any fun e => !decide (e.born ∈ seen), fun i => ⟨fun h => ?_, fun ⟨e, h1, h2⟩ => ?_⟩, List.Nodup.sublist List.filter_sublist List.nodup_range⟩
  · obtain ⟨h1, h2⟩ := List.mem_filter.mp h
    cases hm : ms[i]? with
    | none => rw [hm] at h2; cases h2
    | some e => rw [hm] at h2; exact ⟨e, rfl, by simpa using h2⟩
  · refine List.mem_filter.mpr ⟨List.mem_range.mpr (Array.getElem?_eq_some_iff.mp h1).1, ?_⟩
    rw [h1]; simpa using h2
theorem seqK_no {k : Fr AV → St → RC} {r : RC} (h : seqK k r ≠ .no) : r ≠ .no := fun e => h (by rw [e]; rfl)
theorem onlyNor_no {r : RC} (h : onlyNor r ≠ .no) : r ≠ .no := fun e => h (by rw [e]; rfl)
theorem blockK_no {i : Nat} {r : RC} (h : blockK i r ≠ .no) : r ≠ .no := fun e => h (by rw [e]; rfl)
theorem turn_step [Lay] {nt : Nat} (T : Turning P nt) {call : CallT} (hsc : SoundCall P call) (hdr : DrawnOk P call) (n : Nat) (hb : Born ms cl) {es : List (AV × AV)} (hk : RL E0 w0 (es.map (·.1)) (ms.toList.map (·.key))) (hv : RL E0 w0 (es.map (·.2)) (ms.toList.map (·.val)))
    (hrel0 : Rel s0 E0 w0) (hr0 : w0.heap.size ≤ r) (Q : Exit → Act → World → Prop) (K : Act → World → Prop) {seen : Array Nat} {f : Fr AV} {s : St} {a : Act} {E : Env} {w : World} (rf : RF E w nt f a) (p : Pos s0 E0 w0 ib r k ms cl s E w seen)
    (hne : ∀ q, Ord ms seen q → T.turns call n ib (q.map (nthE es)) f s ≠ .no)
    (hQ : ∀ q f' s' E' a' w', Ord ms seen q → T.turns call n ib (q.map (nthE es)) f s = .nor f' s' → RF E' w' nt f' a' → Went s0 E0 w0 s' E' w' → Q (.exit T.id0) a' w')
    (hK : ∀ (e : MapEntry) (i : Nat) f' s' a' E' w', e ∈ left ms seen → ms[i]? = some e → T.turn call n ib (nthE es i).1 (nthE es i).2 f s = .nor f' s' → RF E' w' nt f' a' → Pos s0 E0 w0 ib r k ms cl s' E' w' (seen.push e.born) → K a' w') :
    T.code.wp P (Exit.then K Q) a w := by
  have hisit : isIt T.it ib f = true := by
    obtain ⟨q, hq⟩ := ord_some (ms := ms) seen
    have h1 := hne q hq
    cases hi : isIt T.it ib f with
    | true => rfl
    | false =>
      exfalso; apply h1
      cases q with
      | nil => show br (isIt T.it ib f) _ _ = _; rw [hi]; rfl
      | cons i q => show seqK _ (br (isIt T.it ib f) _ _) = _; rw [hi]; rfl
  have hval : a.eval (.tmp T.it) = .pointer (some ⟨r, 0, none⟩) := isIt_val T.hit hisit rf p.φ
  refine wp_seq (wp_region_list ?_)
  rw [T.h5]
  rcases next_run (P := P) (t := T.o2.type) p.it p.map hb with ⟨hl, hrun⟩ | ⟨e, he, w', hh, ho, ht, hu, hrun⟩
  · -- nothing is left
    have hord : Ord ms seen [] := ⟨fun i => ⟨fun h => by simp at h, fun ⟨e, h1, h2⟩ => by
      have : e ∈ left ms seen := left_iff.mpr ⟨Array.mem_of_getElem? h1, h2⟩
      rw [hl] at this; simp at this⟩, List.nodup_nil⟩
    have hne0 : T.last call ib f s ≠ .no := hne [] hord
    have hQ0 := fun f' s' E' a' w' => hQ [] f' s' E' a' w' hord
    have e1 : T.last call ib f s = seqK (fun f s => (ev1 f T.b).onBool .no fun t => br t .no (.nor f s)) (exops call T.c5 (putD T.nx (.tup [.bool false]) f) s) := by
      unfold Turning.last; rw [hisit]; rfl
    rw [e1] at hne0
    refine own_good T.hg2 (w' := w) (v := .tuple #[.bool false]) (by simp [execOp, T.hop2, hval, hrun]) ?_
    have hrv : RV E w (.tup [.bool false]) (.tuple #[.bool false]) := .tup [.bool false] [.bool false] rfl (RL.cons (.bool false) (RL.nil E w)).each
    refine ops_goodQ hsc T.hc5 (putD T.nx (.tup [.bool false]) f) s s _ E E w w (.refl p.went.rel) (rf.put (copD_ok T.hd2) hrv) (seqK_no hne0) (fun f1 s1 E1 a1 w1 h1 h2 h3 => ?_)
    rw [h1] at hne0 e1
    have hne1 : ((ev1 f1 T.b).onBool .no fun t => br t .no (.nor f1 s1)) ≠ RC.no := hne0
    have hbv := cod_rv T.hb h2
    cases hcv : ev1 f1 T.b with
    | bool t =>
      rw [hcv] at hne1 hbv
      cases t with
      | true => exact absurd rfl hne1
      | false =>
        refine wp_seq (wp_cond_false (rv_bool hbv) (wp_exit ?_))
        refine hQ0 f1 s1 E1 a1 w1 ?_ h2 (p.went.trans h3)
        show T.last call ib f s = _
        rw [e1]
        show ((ev1 f1 T.b).onBool RC.no fun t => br t RC.no (RC.nor f1 s1)) = _
        rw [hcv]; rfl
    | _ => rw [hcv] at hne1; exact absurd rfl hne1
  · -- one comes
    obtain ⟨i, hi⟩ := Array.mem_iff_getElem?.mp (left_iff.mp he).1
    have hseen := (left_iff.mp he).2
    obtain ⟨q0, hq0⟩ := ord_some (ms := ms) (seen.push e.born)
    have hne1 : T.turn call n ib (nthE es i).1 (nthE es i).2 f s ≠ .no := by
      have h1 := hne (i :: q0) (ord_cons hb hi hseen hq0)
      exact seqK_no (k := Turning.turns T call n ib (q0.map (nthE es))) h1
    have hKi := fun f' s' a' E' w' => hK e i f' s' a' E' w' he hi
    generalize hkv : (nthE es i).1 = kv at hne1 hKi
    generalize hvv : (nthE es i).2 = vv at hne1 hKi
    have hes : es[i]? = some (kv, vv) := by
      have hl : i < es.length := by have := hk.len; simp at this; rw [← this]; exact (Array.getElem?_eq_some_iff.mp hi).1
      have h1 : nthE es i = es[i] := by unfold nthE; rw [List.getD_eq_getElem?_getD, List.getElem?_eq_getElem hl]; rfl
      rw [List.getElem?_eq_getElem hl, ← h1, ← hkv, ← hvv]
    have hle0 := p.went.toLe hrel0
    obtain ⟨p', hle⟩ := p.poke hr0 hh ho ht hu
    have hkr : RV E w' kv e.key := ((hk.each i kv e.key (by simp [hes]) (by simp [hi])).mono hle0).mono hle
    have hvr : RV E w' vv e.val := ((hv.each i vv e.val (by simp [hes]) (by simp [hi])).mono hle0).mono hle
    have e1 : T.turn call n ib kv vv f s = seqK (fun f s => (ev1 f T.b).onBool .no fun t => br t (br (isIt T.it ib f) (onlyNor (blockK T.id1 (seqK (excode call n T.c7) (exops call T.c6 (putD T.en (.tup [kv, vv]) f) s)))) .no) .no)
        (exops call T.c5 (putD T.nx (.tup [.bool true, kv, vv]) f) s) := by
      unfold Turning.turn; rw [hisit]; rfl
    rw [e1] at hne1
    refine own_good T.hg2 (w' := w') (v := .tuple #[.bool true, e.key, e.val]) (by simp [execOp, T.hop2, hval, hrun]) ?_
    have hrv : RV E w' (.tup [.bool true, kv, vv]) (.tuple #[.bool true, e.key, e.val]) := .tup [.bool true, kv, vv] [.bool true, e.key, e.val] rfl (RL.cons (.bool true) (RL.cons hkr (RL.cons hvr (RL.nil E w')))).each
    refine ops_goodQ hsc T.hc5 (putD T.nx (.tup [.bool true, kv, vv]) f) s s _ E E w' w' (.refl p'.went.rel) ((rf.mono hle).put (copD_ok T.hd2) hrv) (seqK_no hne1) (fun f1 s1 E1 a1 w1 h1 h2 h3 => ?_)
    rw [h1] at hne1 e1
    have hne2 : ((ev1 f1 T.b).onBool .no fun t => br t (br (isIt T.it ib f1) (onlyNor (blockK T.id1 (seqK (excode call n T.c7) (exops call T.c6 (putD T.en (.tup [kv, vv]) f1) s1)))) .no) .no) ≠ RC.no := hne1
    have p1 := p'.next h3
    have hbv := cod_rv T.hb h2
    cases hcv : ev1 f1 T.b with
    | bool t =>
      rw [hcv] at hne2 hbv
      cases t with
      | false => exact absurd rfl hne2
      | true =>
        cases hi1 : isIt T.it ib f1 with
        | false => rw [hi1] at hne2; exact absurd rfl hne2
        | true =>
          rw [hi1] at hne2
          have hne3 : onlyNor (blockK T.id1 (seqK (excode call n T.c7) (exops call T.c6 (putD T.en (.tup [kv, vv]) f1) s1))) ≠ RC.no := hne2
          have hval1 : a1.eval (.tmp T.it) = .pointer (some ⟨r, 0, none⟩) := isIt_val T.hit hi1 h2 p1.φ
          have hle1 := h3.toLe p'.went.rel
          have e2 : T.turn call n ib kv vv f s = onlyNor (blockK T.id1 (seqK (excode call n T.c7) (exops call T.c6 (putD T.en (.tup [kv, vv]) f1) s1))) := by
            rw [e1]
            show ((ev1 f1 T.b).onBool RC.no fun t => br t (br (isIt T.it ib f1) _ RC.no) RC.no) = _
            rw [hcv, hi1]; rfl
          refine wp_seq (wp_cond_true (rv_bool hbv) (wp_skip (wp_block (wp_seq (wp_region_list ?_)))))
          rw [T.h6]
          refine own_good T.hg4 (w' := w1) (v := .tuple #[e.key, e.val]) (by simp [execOp, T.hop4, hval1, run_entry (left_iff.mp he).1 p1.it p1.map hb]) ?_
          have hrv2 : RV E1 w1 (.tup [kv, vv]) (.tuple #[e.key, e.val]) := .tup [kv, vv] [e.key, e.val] rfl (RL.cons (hkr.mono hle1) (RL.cons (hvr.mono hle1) (RL.nil E1 w1))).each
          refine ops_goodQ hsc T.hc6 (putD T.en (.tup [kv, vv]) f1) s1 s1 _ E1 E1 w1 w1 (.refl p1.went.rel) (h2.put (copD_ok T.hd4) hrv2) (seqK_no (blockK_no (onlyNor_no hne3))) (fun f2 s2 E2 a2 w2 g1 g2 g3 => ?_)
          rw [g1] at hne3 e2
          have hne4 : onlyNor (blockK T.id1 (excode call n T.c7 f2 s2)) ≠ RC.no := hne3
          have e3 : T.turn call n ib kv vv f s = onlyNor (blockK T.id1 (excode call n T.c7 f2 s2)) := e2
          have p2 := p1.next g3
          refine Code.wp_mono ?_ (code_ok hsc hdr n T.h7 g2 g3.rel (blockK_no (onlyNor_no hne4)))
          intro ex a3 w3 hp
          have done : ∀ f3 s3 E3, T.turn call n ib kv vv f s = .nor f3 s3 → RF E3 w3 nt f3 a3 → Went s2 E2 w2 s3 E3 w3 → K a3 w3 := fun f3 s3 E3 q1 q2 q3 => hKi f3 s3 a3 E3 w3 q1 q2 (p2.next q3)
          cases ex with
          | normal =>
            obtain ⟨f3, s3, E3, q1, q2, q3⟩ := hp
            exact done f3 s3 E3 (by rw [e3, q1]; rfl) q2 q3
          | exit j =>
            obtain ⟨f3, s3, E3, q1, q2, q3⟩ := hp
            by_cases hj : j = T.id1
            · subst hj
              show if T.id1 = T.id1 then _ else _
              rw [if_pos rfl]
              refine done f3 s3 E3 ?_ q2 q3
              rw [e3, q1]
              show onlyNor (br (Nat.beq T.id1 T.id1) _ _) = _
              rw [Nat.beq_refl]; rfl
            · exfalso
              apply hne4
              rw [q1]
              show onlyNor (br (Nat.beq j T.id1) _ _) = _
              have : Nat.beq j T.id1 = false := by
                cases hq : Nat.beq j T.id1 with
                | false => rfl
                | true => exact absurd (Nat.eq_of_beq_eq_true hq) hj
              rw [this]; rfl
          | ret =>
            obtain ⟨f3, s3, E3, q1, q2, q3⟩ := hp
            exact absurd (by rw [q1]; rfl) hne4
          | _ => exact hp.elim
    | _ => rw [hcv] at hne2; exact absurd rfl hne2
theorem turns_good [Lay] {nt : Nat} (T : Turning P nt) {call : CallT} (hsc : SoundCall P call) (hdr : DrawnOk P call) (n : Nat) (hb : Born ms cl) {es : List (AV × AV)} (hk : RL E0 w0 (es.map (·.1)) (ms.toList.map (·.key))) (hv : RL E0 w0 (es.map (·.2)) (ms.toList.map (·.val)))
    (hrel0 : Rel s0 E0 w0) (hr0 : w0.heap.size ≤ r) (Q : Exit → Act → World → Prop) : ∀ (m : Nat) (seen : Array Nat) (f : Fr AV) (s : St) (a : Act) (E : Env) (w : World), (left ms seen).size ≤ m → RF E w nt f a → Pos s0 E0 w0 ib r k ms cl s E w seen →
    (∀ q, Ord ms seen q → T.turns call n ib (q.map (nthE es)) f s ≠ .no) →
    (∀ q f' s' E' a' w', Ord ms seen q → T.turns call n ib (q.map (nthE es)) f s = .nor f' s' → RF E' w' nt f' a' → Went s0 E0 w0 s' E' w' → Q (.exit T.id0) a' w') →
    Code.rounds P T.code Q (m + 1) a w := by
  intro m
  induction m with
  | zero =>
    intro seen f s a E w hm rf p hne hQ
    refine turn_step T hsc hdr n hb hk hv hrel0 hr0 Q _ rf p hne hQ (fun e i f' s' a' E' w' he => ?_)
    have := left_less he
    omega
  | succ m ih =>
    intro seen f s a E w hm rf p hne hQ
    refine turn_step T hsc hdr n hb hk hv hrel0 hr0 Q _ rf p hne hQ (fun e i f' s' a' E' w' he hi ht rf' p' => ?_)
    have hlt := left_less he
    have hseen := (left_iff.mp he).2
    have step : ∀ q, Ord ms (seen.push e.born) q → T.turns call n ib ((i :: q).map (nthE es)) f s = T.turns call n ib (q.map (nthE es)) f' s' := fun q hq => by
      show seqK (Turning.turns T call n ib (q.map (nthE es))) (T.turn call n ib (nthE es i).1 (nthE es i).2 f s) = _
      rw [ht]; rfl
    exact ih (seen.push e.born) f' s' a' E' w' (by omega) rf' p' (fun q hq => by rw [← step q hq]; exact hne _ (ord_cons hb hi hseen hq))
      (fun q f2 s2 E2 a2 w2 hq h1 => hQ (i :: q) f2 s2 E2 a2 w2 (ord_cons hb hi hseen hq) (by rw [step q hq]; exact h1))
theorem ord_perm {q : List Nat} (h : Ord ms #[] q) {es : List (AV × AV)} (hl : es.length = ms.size) : (q.map (nthE es)).Perm es := by
  have h1 : q.Perm (List.range ms.size) := by
    refine (List.perm_ext_iff_of_nodup h.2 List.nodup_range).mpr fun i => ?_
    rw [h.1 i, List.mem_range]
    constructor
    · rintro ⟨e, he, _⟩; exact (Array.getElem?_eq_some_iff.mp he).1
    · intro hi; exact ⟨ms[i], Array.getElem?_eq_getElem hi, by simp⟩
  have h2 : (List.range ms.size).map (nthE es) = es := by
    apply List.ext_getElem
    · simp [hl]
    · intro i h3 h4
      rw [List.getElem_map, List.getElem_range]
      unfold nthE
      rw [List.getD_eq_getElem?_getD, List.getElem?_eq_getElem h4]; rfl
  have h3 := h1.map (nthE es)
  rw [h2] at h3
  exact h3
end
/-- A loop over a map, from its making on. -/
theorem ranged_good [Lay] {nt : Nat} (T : Turning P nt) {call : CallT} (hsc : SoundCall P call) (hdr : DrawnOk P call) (n : Nat) {id4 : Nat} {ops4 : Array Oper} {o0 o1 : Oper} (h4 : ops4.toList = [o0, o1]) {cd0 cd1 : CD} {co0 : COp} (hc0 : copR P nt ops4 o0 = some (.mk cd0 co0 .none))
    {t kt et : TypeId} {x : Tmp} (hx256 : x < 256) (hop1 : o1.op = .range t (.tmp x)) (ht : P.underlying t = some (.map kt et)) (hg1 : o1.guard = none) (hd1 : copD nt o1.dst = some cd1)
    {f : Fr AV} {s s1 s2 : St} {a : Act} {E : Env} {w : World} {v : AV} {mb : Id} {es : List (AV × AV)} (rf : RF E w nt f a) (rel : Rel s E w) (hx0 : exop co0 call f s = .ok v s1) (hv : (Sl.ofNat x).get (putD cd0 v f) = .map mb) (hes : s1.obj mb = .map es)
    (hs2 : s2.n.val = s1.n.val + 1) (ho2 : ∀ b, s2.obj b = if b = mb then .dead else s1.obj b) (Q : Exit → Act → World → Prop)
    (hne : ∀ p, p.Perm es → T.turns call n s1.n p (putD cd1 (.ptr s1.n 0) (putD cd0 v f)) s2 ≠ .no)
    (hQ : ∀ p f' s' E' a' w', p.Perm es → T.turns call n s1.n p (putD cd1 (.ptr s1.n 0) (putD cd0 v f)) s2 = .nor f' s' → RF E' w' nt f' a' → Went s E w s' E' w' → Q .normal a' w') :
    (Code.seq (.region id4 ops4 false) (.block T.id0 (.loop T.code))).wp P Q a w := by
  refine wp_seq (wp_region_list ?_)
  rw [h4]
  refine one_good hsc hc0 rf rel hx0 (fun a1 E1 w1 rf1 h1 => ?_)
  have rh := h1.rel.h
  have hmb : s1.obj mb ≠ .dead := by rw [hes]; intro h; cases h
  obtain ⟨ms, cl, H⟩ := rh.map mb es hes
  have hval : a1.eval (.tmp x) = .map (some (E1.φ mb).block) := by
    have h2 := rf1.slot x hx256
    rw [hv] at h2
    show a1.tmps.getD x Go.undef = _
    generalize a1.tmps.getD x Go.undef = u at h2
    cases h2; rfl
  have hfresh : ¬ E1.D s1.n := h1.rel.n s1.n (Nat.le_refl _)
  let w2 := w1.alloc (.mapIter (some (E1.φ mb).block) cl #[] cl)
  let E2 : Env := ⟨fun b => if b = s1.n then ⟨w1.heap.size, 0, none⟩ else E1.φ b, E1.I, fun b => E1.D b ∨ b = s1.n⟩
  have hφ : ∀ b, E1.D b → E2.φ b = E1.φ b := fun b hb => if_neg (fun h' : b = s1.n => hfresh (by rw [← h']; exact hb))
  have hφn : E2.φ s1.n = ⟨w1.heap.size, 0, none⟩ := if_pos rfl
  have hheap : w2.heap = w1.heap.push (.mapIter (some (E1.φ mb).block) cl #[] cl) := rfl
  have hold : ∀ j, j < w1.heap.size → w2.heap[j]? = w1.heap[j]? := fun j hj => by rw [hheap, Array.getElem?_push, if_neg (by omega)]
  have hsz : w1.heap.size ≤ w2.heap.size := by rw [hheap, Array.size_push]; omega
  have hle : Le E1 w1 E2 w2 := ⟨fun b hb => .inl hb, hφ, fun _ hk => hk, fun k hk => hold k (rh.seen k hk), .of_old hold⟩
  have hlive : ∀ b, s2.obj b ≠ .dead → s1.obj b ≠ .dead ∧ b ≠ mb := fun b hb => by
    rw [ho2] at hb
    split at hb
    · exact absurd rfl hb
    · exact ⟨hb, by assumption⟩
  have rh2 : RelH s2.obj E2 w2 := (rel_keep rh hle hold hsz (fun k hk => .inl hk)).kill (fun b => by
    rw [ho2]
    by_cases hb : b = mb
    · exact .inl (if_pos hb)
    · exact .inr (if_neg hb))
  have hw2 : Went s1 E1 w1 s2 E2 w2 := by
    refine ⟨⟨fun b hb hD => ?_, rh2, h1.rel.laid.le hle⟩, by omega, ⟨hle.D, hφ, fun b hb => ?_, fun _ hk => hk, fun _ hk => .inl hk, rfl, rfl, rfl, hsz, fun k hk _ => hold k hk, .of_old hold, fun b hb => ?_⟩⟩
    · rcases hD with hD | rfl
      · exact h1.rel.n b (by omega) hD
      · omega
    · rcases hb with hb | rfl
      · exact .inl hb
      · exact .inr ⟨Nat.le_refl _, by omega⟩
    · have := (hlive b hb).1
      exact .inl ⟨b, this, by rw [hφ b (rh.old b this)]⟩
  refine own_good hg1 (w' := w2) (v := .pointer (some ⟨w1.heap.size, 0, none⟩)) (by simp [execOp, hop1, hval, run_range ht H.heap]; rfl) (wpList_nil ?_)
  have hrv : RV E2 w2 (.ptr s1.n 0) (.pointer (some ⟨w1.heap.size, 0, none⟩)) := by
    have := RV.ptr (E := E2) (w := w2) s1.n 0 (.inr rfl)
    rwa [hφn] at this
  have rf2 := (rf1.mono hle).put (copD_ok hd1) hrv
  have hlen : es.length = ms.size := by have := H.keys.len; simp at this; omega
  have hpos : Pos s1 E1 w1 s1.n w1.heap.size (E1.φ mb).block ms cl s2 E2 w2 #[] := by
    refine ⟨hw2, .inr rfl, hφn, by rw [hheap]; simp, by rw [hold _ (rh.block_lt hmb)]; exact H.heap, fun b hb => ?_, fun hI => ?_⟩
    · obtain ⟨g1, g2⟩ := hlive b hb
      rw [hφ b (rh.old b g1)]
      exact ⟨Nat.ne_of_lt (rh.block_lt g1), rh.inj b mb g1 hmb g2⟩
    · have := rh.seen _ hI; omega
  refine wp_block (wp_loop_rounds _ (turns_good T hsc hdr n H.born H.keys H.vals h1.rel (Nat.le_refl _) _ _ #[] _ s2 _ E2 w2 (Nat.le_refl _) rf2 hpos (fun q hq => hne _ (ord_perm hq hlen)) (fun q f' s' E' a' w' hq g1 g2 g3 => ?_)))
  show if T.id0 = T.id0 then _ else _
  rw [if_pos rfl]
  exact hQ _ f' s' E' a' w' (ord_perm hq hlen) g1 g2 (h1.trans g3)
end Go.Vm
namespace Go.Vm
set_option linter.unusedVariables false
variable {P : Program}
noncomputable def oneO (o : Option AV) (k : AV → Option AV) : Option AV := Option.rec none (fun a => k a) o
noncomputable def mapO (f : AV → Option AV) (chk : Bool) (l : List AV) : Option (List AV) :=
  List.rec (some []) (fun a _ ih => Option.rec none (fun b => br (br chk b.one true) (Option.rec none (fun r => some (b :: r)) ih) none) (f a)) l
/-- A value, its memory by what lies there. -/
noncomputable def vw (s : St) (own : Bool) : Nat → AV → Option AV
  | 0, _ => none
  | n + 1, .ptr b o => (mapO (vw s own n) true ((s.obj b).row.drop o)).map .tp
  | n + 1, .tp l => br own none ((mapO (vw s own n) true l).map .tp)
  | n + 1, .sl b o len cap ex => (mapO (vw s own n) true ((s.obj b).row.drop o)).map fun l => .ts l len len false
  | n + 1, .ts l len cap ex => br own none ((mapO (vw s own n) true l).map fun l => .ts l len len false)
  | n + 1, .agg l => (mapO (vw s own n) true l).map .agg
  | n + 1, .tup l => (mapO (vw s own n) false l).map .tup
  | n + 1, .bool b => some (.bool b)
  | n + 1, .int k i => some (.int k i)
  | n + 1, .str b => some (.str b)
  | n + 1, .nilp => some .nilp
  | n + 1, .nils => some .nils
  | n + 1, .nilm => some .nilm
  | n + 1, .nilf => some .nilf
  | n + 1, .nili => some .nili
  | _, _ => none
theorem mapO_cons {f : AV → Option AV} {chk : Bool} {a : AV} {l : List AV} {r : List AV} (h : mapO f chk (a :: l) = some r) : ∃ b r', f a = some b ∧ (chk = true → b.one = true) ∧ mapO f chk l = some r' ∧ r = b :: r' := by
  have h' : (Option.rec none (fun b => br (br chk b.one true) (Option.rec none (fun r => some (b :: r)) (mapO f chk l)) none) (f a) : Option (List AV)) = some r := h
  cases hf : f a with
  | none => rw [hf] at h'; cases h'
  | some b =>
    rw [hf] at h'
    have h2 : br (br chk b.one true) (Option.rec none (fun r => some (b :: r)) (mapO f chk l) : Option (List AV)) none = some r := h'
    cases hm : mapO f chk l with
    | none => rw [hm] at h2; cases hc : br chk b.one true <;> rw [hc] at h2 <;> cases h2
    | some r' =>
      rw [hm] at h2
      cases hc : br chk b.one true with
      | false => rw [hc] at h2; cases h2
      | true =>
        rw [hc] at h2; cases h2
        refine ⟨b, r', rfl, fun hk => ?_, rfl, rfl⟩
        rw [hk] at hc; exact hc
theorem vw_mt {s : St} {own : Bool} : ∀ (n : Nat) (v p : AV), vw s own n v = some p → mt s own p v = true := by
  intro n
  induction n with
  | zero => intro v p h; cases v <;> cases h
  | succ n ih =>
    have hp : ∀ (l r : List AV), mapO (vw s own n) true l = some r → mt.mtp s own r l = true ∧ r.length = l.length := by
      intro l
      induction l with
      | nil => intro r h; cases h; exact ⟨rfl, rfl⟩
      | cons a l ihl =>
        intro r h
        obtain ⟨b, r', h1, h2, h3, rfl⟩ := mapO_cons h
        obtain ⟨h4, h5⟩ := ihl r' h3
        exact ⟨by simp only [mt.mtp, Bool.and_eq_true]; exact ⟨⟨h2 rfl, ih a b h1⟩, h4⟩, by simp [h5]⟩
    have hs : ∀ (l r : List AV), mapO (vw s own n) false l = some r → mt.mts s own r l = true := by
      intro l
      induction l with
      | nil => intro r h; cases h; rfl
      | cons a l ihl =>
        intro r h
        obtain ⟨b, r', h1, h2, h3, rfl⟩ := mapO_cons h
        simp only [mt.mts, Bool.and_eq_true]; exact ⟨ih a b h1, ihl r' h3⟩
    intro v p h
    cases v with
    | bool b => cases h; simp [mt]
    | int k i => cases h; simp [mt, (keq_iff k k).mpr rfl]
    | str b => cases h; simp [mt]
    | nilp => cases h; rfl
    | nils => cases h; rfl
    | nilf => cases h; rfl
    | nili => cases h; rfl
    | ptr b o =>
      simp only [vw, Option.map_eq_some_iff] at h
      obtain ⟨l, h1, rfl⟩ := h
      exact (hp _ _ h1).1
    | sl b o len cap ex =>
      simp only [vw, Option.map_eq_some_iff] at h
      obtain ⟨l, h1, rfl⟩ := h
      simp [mt, (hp _ _ h1).1]
    | tp l =>
      cases ho : own with
      | true => simp only [vw, ho, br_true] at h; cases h
      | false =>
        simp only [vw, ho, br_false, Option.map_eq_some_iff] at h
        obtain ⟨l', h1, rfl⟩ := h
        rw [← ho] at h1 ⊢
        simp only [mt, Bool.and_eq_true, Bool.not_eq_true']
        exact ⟨ho, (hp _ _ h1).1⟩
    | ts l len cap ex =>
      cases ho : own with
      | true => simp only [vw, ho, br_true] at h; cases h
      | false =>
        simp only [vw, ho, br_false, Option.map_eq_some_iff] at h
        obtain ⟨l', h1, rfl⟩ := h
        rw [← ho] at h1 ⊢
        simp [mt, ho]
        rw [← ho]; exact (hp _ _ h1).1
    | agg l =>
      simp only [vw, Option.map_eq_some_iff] at h
      obtain ⟨l', h1, rfl⟩ := h
      simp [mt, hp _ _ h1]
    | tup l =>
      simp only [vw, Option.map_eq_some_iff] at h
      obtain ⟨l', h1, rfl⟩ := h
      exact hs _ _ h1
    | nilm => cases h; rfl
    | map b => cases h
    | fn f a b => cases h
    | ifc t a => cases h
theorem vws_mts {s : St} {own : Bool} {n : Nat} {l r : List AV} (h : mapO (vw s own n) false l = some r) : mt.mts s own r l = true := by
  induction l generalizing r with
  | nil => cases h; rfl
  | cons a l ihl =>
    obtain ⟨b, r', h1, h2, h3, rfl⟩ := mapO_cons h
    simp only [mt.mts, Bool.and_eq_true]; exact ⟨vw_mt n a b h1, ihl h3⟩
end Go.Vm
namespace Go.Vm
set_option linter.unusedVariables false
variable {P : Program}
/-- Code, from a frame and a state: it comes to one of these. -/
def Runs [Lay] (P : Program) (nt : Nat) (c : Code) (f : Fr AV) (s : St) (Z : RC → Prop) : Prop :=
  ∀ a E w, RF E w nt f a → Rel s E w → c.wp P (fun e a' w' => ∃ rc, Z rc ∧ CodePost nt s E w rc e a' w') a w
theorem Runs.mono [Lay] {nt : Nat} {c : Code} {f : Fr AV} {s : St} {Z Z' : RC → Prop} (h : Runs P nt c f s Z) (hz : ∀ rc, Z rc → Z' rc) : Runs P nt c f s Z' :=
  fun a E w rf rel => Code.wp_mono (fun e a' w' ⟨rc, h1, h2⟩ => ⟨rc, hz rc h1, h2⟩) (h a E w rf rel)
theorem Runs.code [Lay] {call : CallT} (hsc : SoundCall P call) (hdr : DrawnOk P call) (n : Nat) {nt : Nat} {c : Code} {c' : CC} (hc : cc P nt c = some c') {f : Fr AV} {s : St} (hne : excode call n c' f s ≠ .no) : Runs P nt c f s (· = excode call n c' f s) :=
  fun a E w rf rel => Code.wp_mono (fun e a' w' h => ⟨_, rfl, h⟩) (code_ok hsc hdr n hc rf rel hne)
theorem Runs.seq [Lay] {nt : Nat} {x y : Code} {f : Fr AV} {s : St} {Z Z' : RC → Prop} (hx : Runs P nt x f s Z) (hy : ∀ f1 s1, Z (.nor f1 s1) → Runs P nt y f1 s1 Z') (hz : ∀ rc, Z rc → (∀ f1 s1, rc ≠ .nor f1 s1) → Z' rc) : Runs P nt (.seq x y) f s Z' := by
  intro a E w rf rel
  refine wp_seq (Code.wp_mono ?_ (hx a E w rf rel))
  intro e a' w' ⟨rc, h1, h2⟩
  cases e with
  | normal =>
    obtain ⟨f1, s1, E1, rfl, g2, g3⟩ := h2
    exact Code.wp_mono (fun e a2 w2 ⟨rc, q1, q2⟩ => ⟨rc, q1, q2.trans g3⟩) (hy f1 s1 h1 a' E1 w' g2 g3.rel)
  | exit i =>
    obtain ⟨f1, s1, E1, rfl, g2, g3⟩ := h2
    exact ⟨_, hz _ h1 (fun _ _ h => by cases h), f1, s1, E1, rfl, g2, g3⟩
  | ret =>
    obtain ⟨f1, s1, E1, rfl, g2, g3⟩ := h2
    exact ⟨_, hz _ h1 (fun _ _ h => by cases h), f1, s1, E1, rfl, g2, g3⟩
  | _ => exact h2.elim
/-- What a loop over a map starts from. -/
structure Ranged (P : Program) (nt : Nat) (id4 : Nat) (ops4 : Array Oper) (cd0 cd1 : CD) (co0 : COp) (x : Tmp) : Prop where
  shape : ∃ o0 o1 t kt et, ops4.toList = [o0, o1] ∧ copR P nt ops4 o0 = some (.mk cd0 co0 .none) ∧ x < 256 ∧ o1.op = .range t (.tmp x) ∧ P.underlying t = some (.map kt et) ∧ o1.guard = none ∧ copD nt o1.dst = some cd1
theorem Runs.range [Lay] {nt : Nat} (T : Turning P nt) {call : CallT} (hsc : SoundCall P call) (hdr : DrawnOk P call) (n : Nat) {id4 : Nat} {ops4 : Array Oper} {cd0 cd1 : CD} {co0 : COp} {x : Tmp} (hR : Ranged P nt id4 ops4 cd0 cd1 co0 x)
    {f : Fr AV} {s s1 s2 : St} {v : AV} {mb : Id} {es : List (AV × AV)} (hx0 : exop co0 call f s = .ok v s1) (hv : (Sl.ofNat x).get (putD cd0 v f) = .map mb) (hes : s1.obj mb = .map es)
    (hs2 : s2.n.val = s1.n.val + 1) (ho2 : ∀ b, s2.obj b = if b = mb then .dead else s1.obj b)
    (hne : ∀ p, p.Perm es → T.turns call n s1.n p (putD cd1 (.ptr s1.n 0) (putD cd0 v f)) s2 ≠ .no) :
    Runs P nt (Code.seq (.region id4 ops4 false) (.block T.id0 (.loop T.code))) f s (fun rc => ∃ p, p.Perm es ∧ rc = T.turns call n s1.n p (putD cd1 (.ptr s1.n 0) (putD cd0 v f)) s2) := by
  intro a E w rf rel
  obtain ⟨o0, o1, t, kt, et, h4, hc0, hx256, hop1, ht, hg1, hd1⟩ := hR.shape
  exact ranged_good T hsc hdr n h4 hc0 hx256 hop1 ht hg1 hd1 rf rel hx0 hv hes hs2 ho2 _ hne (fun p f' s' E' a' w' h1 h2 h3 h4 => ⟨_, ⟨p, h1, rfl⟩, f', s', E', h2, h3, h4⟩)
/-- A call that comes to one of several things. -/
theorem fn_runs [Lay] {g : Nat} {fn : Func} {b : Code} {rs : List Res} (hf : P.funcs[g]? = some fn) (hb : fn.body = some b) (hrs : fn.results.toList.mapM (copRes P) = some rs) (hnt : fn.ntmps ≤ 256) {args : List AV} (hle : args.length ≤ fn.ntmps) {s : St} {Z : RC → Prop} {W : AV → St → Prop}
    (hrun : Runs P fn.ntmps b (frame0 args) s Z) (hW : ∀ rc, Z rc → ∃ r s', fin rs rc = .ok r s' ∧ W r s') {E : Env} {w : World} {vals : List Value} (rel : Rel s E w) (hrl : RL E w args vals) :
    Calls P g vals.toArray w fun e w' => ∃ r s' E' v, W r s' ∧ e = .returned v ∧ RV E' w' r v ∧ Went s E w s' E' w' := by
  refine calls_of_wp hf hb (Code.wp_mono ?_ (hrun _ E w (frame0_rf hrl hle hnt) rel))
  intro e a' w' ⟨rc, hz, hp⟩
  obtain ⟨r, s', hfin, hw⟩ := hW rc hz
  have fin' : ∀ f1 s1 (E' : Env), ress f1 s1 rs (fun l => .ok (pack l) s1) = .ok r s' → RF E' w' fn.ntmps f1 a' → Went s E w s1 E' w' → a'.defers = [] ∧ ∃ v, (results fn a'.tmps).run P w' = .ok v w' ∧ ∃ r s' E' u, W r s' ∧ Ending.returned v = .returned u ∧ RV E' w' r u ∧ Went s E w s' E' w' := by
    intro f1 s1 E' hres rf hw1
    obtain ⟨us, cs, g1, g2, g3⟩ := ress_ok rf hw1.rel.h hrs hres
    obtain ⟨rfl, rfl⟩ := ok_inj g3
    exact ⟨rf.defers, _, run_results g1, _, _, E', _, hw, rfl, pack_rv g2, hw1⟩
  cases e with
  | normal => obtain ⟨f', s2, E', rfl, h2, h3⟩ := hp; exact fin' f' s2 E' hfin h2 h3
  | ret => obtain ⟨f', s2, E', rfl, h2, h3⟩ := hp; exact fin' f' s2 E' hfin h2 h3
  | exit i => obtain ⟨f', s2, E', rfl, h2, h3⟩ := hp; exact R.noConfusion hfin
  | _ => exact hp.elim
/-- What is told of a call from nothing: it comes to values that look so. -/
def Seen [Lay] (P : Program) (g : Nat) (args : List AV) (ret : AV) : Prop :=
  ∀ F w vals, Rel St.empty F w → RL F w args vals → Calls P g vals.toArray w fun e w' => ∃ r s' E' v, mt s' true ret r = true ∧ e = .returned v ∧ RV E' w' r v ∧ Went .empty F w s' E' w'
/-- Calls that are told: what the arguments look as, and what is seen of the answer. -/
theorem seen_sound [Lay] [Bare] {pk : Id → List AV → St → Option (List AV × AV)} {call : CallT} (hc : SoundCall P call)
    (h : ∀ g args s en, pk g args s = some en → mt.mts s false en.1 args = true ∧ (∃ fn, P.funcs[g.val]? = some fn ∧ fn.body.isNone = false ∧ fn.name ≠ "runtime.NumGoroutine") ∧ Seen P g.val en.1 en.2) : SoundCall P (picks pk call) := by
  intro g args s r s' hr
  cases hT : pk g args s with
  | none =>
    have e : picks pk call g args s = call g args s := by unfold picks; rw [hT]
    rw [e] at hr
    exact hc g args s r s' hr
  | some en =>
    have e : picks pk call g args s = .ok en.2 s := by unfold picks; rw [hT]
    rw [e] at hr
    obtain ⟨rfl, rfl⟩ := ok_inj hr
    obtain ⟨hm, hfn, hseen⟩ := h g args s en hT
    refine ⟨hfn, fun E w vals rel hrl => ?_⟩
    have hdead : ∀ b, St.empty.obj b = .dead := empty_obj
    let F : Env := ⟨E.φ, fun k => E.I k ∨ ∃ b, s.obj b ≠ .dead ∧ (E.φ b).block = k, fun _ => False⟩
    have hF : RL F w en.1 vals := (mt_rv (F := F) (own := false) rel.h (fun b hb => .inr ⟨b, hb, rfl⟩) (fun _ k hk => .inl hk) (SizeOf.sizeOf en.1)).2.2 _ _ (Nat.le_refl _) hm vals hrl
    have hRF : Rel St.empty F w := ⟨fun b _ h => h, ⟨(fun b cs h => by rw [hdead] at h; cases h), (fun b es h => by rw [hdead] at h; cases h), fun b h => absurd (hdead b) h, fun b c h => absurd (hdead b) h, fun b h => absurd (hdead b) h,
      fun k hk => hk.elim (rel.h.seen k) (fun ⟨b, hb, e⟩ => by rw [← e]; exact rel.h.block_lt hb)⟩, rel.laid.on (fun _ hk => .inl hk) fun _ _ => rfl⟩
    refine Calls.mono (hseen F w vals hRF hF) ?_
    rintro e w' ⟨r0, s1, E1, v, h2, rfl, k1, k2⟩
    have hold : ∀ k, k < w.heap.size → w'.heap[k]? = w.heap[k]? := fun k hk => k2.ext.keep k hk (fun b hb => absurd (hdead b) hb)
    have hnew : ∀ b, s1.obj b ≠ .dead → w.heap.size ≤ (E1.φ b).block ∧ (E1.φ b).block < w'.heap.size := fun b hb => by
      refine ⟨?_, k2.rel.h.block_lt hb⟩
      rcases k2.ext.new b hb with ⟨c, hc, _⟩ | hge
      · exact absurd (hdead c) hc
      · exact hge
    let G : Env := ⟨E.φ, fun k => E.I k ∨ ∃ b, s1.obj b ≠ .dead ∧ (E1.φ b).block = k, E.D⟩
    have hle : Le E w G w' := ⟨fun _ h => h, fun _ _ => rfl, fun _ h => .inl h, fun k hk => hold k (rel.h.seen k hk), .of_old hold⟩
    have hv : RV G w' en.2 v := (mt_rv (F := G) (own := true) k2.rel.h (fun b hb => .inr ⟨b, hb, rfl⟩) (fun h => by cases h) (SizeOf.sizeOf en.2)).1 _ _ (Nat.le_refl _) h2 v k1
    refine ⟨G, v, rfl, hv, ⟨⟨rel.n, rel_keep rel.h hle hold k2.ext.size (fun k hk => hk.elim .inl (fun ⟨b, hb, e⟩ => .inr (by rw [← e]; exact hnew b hb))), rel.laid.le hle⟩, Nat.le_refl _, ?_⟩⟩
    exact ⟨fun _ h => h, fun _ _ => rfl, fun _ h => .inl h, fun _ h => .inl h, fun k hk => hk.elim .inl (fun ⟨b, hb, e⟩ => .inr (.inl (by rw [← e]; exact (hnew b hb).1))), k2.ext.os, k2.ext.tape, k2.ext.output, k2.ext.size, fun k hk _ => hold k hk, .of_old hold, fun b hb => .inl ⟨b, hb, rfl⟩⟩
end Go.Vm
namespace Go.Vm
set_option linter.unusedVariables false
variable {P : Program}
/-! ### Orders -/
section
variable {α : Type}
noncomputable def inserts (a : α) (l : List α) : List (List α) := List.rec [[a]] (fun b r ih => (a :: b :: r) :: List.rec [] (fun x _ ih2 => (b :: x) :: ih2) ih) l
noncomputable def joins (f : List α → List (List α)) (l : List (List α)) : List (List α) := List.rec [] (fun p _ ih => apd (f p) ih) l
noncomputable def perms (l : List α) : List (List α) := List.rec [[]] (fun a _ ih => joins (inserts a) ih) l
theorem inserts_cons (a b : α) (r : List α) : inserts a (b :: r) = (a :: b :: r) :: (inserts a r).map (b :: ·) := by
  show (a :: b :: r) :: List.rec [] (fun x _ ih2 => (b :: x) :: ih2) (inserts a r) = _
  congr 1
  induction inserts a r with
  | nil => rfl
  | cons x l ih => show (b :: x) :: _ = _; rw [ih]; rfl
theorem perms_cons (a : α) (l : List α) : perms (a :: l) = (perms l).flatMap (inserts a) := by
  show joins (inserts a) (perms l) = _
  induction perms l with
  | nil => rfl
  | cons p q ih => show apd (inserts a p) (joins (inserts a) q) = _; rw [apd_eq, ih]; simp
theorem mem_inserts (a : α) (x y : List α) : x ++ a :: y ∈ inserts a (x ++ y) := by
  induction x with
  | nil =>
    cases y with
    | nil => exact List.mem_singleton.mpr rfl
    | cons b r => simp only [List.nil_append]; rw [inserts_cons]; exact List.mem_cons_self
  | cons b x ih =>
    simp only [List.cons_append]
    rw [inserts_cons]
    exact List.mem_cons_of_mem _ (List.mem_map.mpr ⟨_, ih, rfl⟩)
theorem mem_perms {p l : List α} (h : p.Perm l) : p ∈ perms l := by
  induction l generalizing p with
  | nil => rw [List.perm_nil.mp h]; exact List.mem_singleton.mpr rfl
  | cons a l ih =>
    have ha : a ∈ p := h.mem_iff.mpr List.mem_cons_self
    obtain ⟨x, y, rfl⟩ := List.append_of_mem ha
    have h2 : (x ++ y).Perm l := (List.perm_cons a).mp (List.perm_middle.symm.trans h)
    rw [perms_cons]
    exact List.mem_flatMap.mpr ⟨x ++ y, ih h2, mem_inserts a x y⟩
end
/-! ### Pieces of code -/
def chainCode (l : List Code) (y : Code) : Code := l.foldr .seq y
noncomputable def excodes (call : CallT) (n : Nat) (l : List CC) : Fr AV → St → RC := List.rec (fun f s => .nor f s) (fun c _ ih f s => seqK ih (excode call n c f s)) l
theorem Runs.chain [Lay] {call : CallT} (hsc : SoundCall P call) (hdr : DrawnOk P call) (n : Nat) {nt : Nat} {l : List Code} {cl : List CC} (hl : l.mapM (cc P nt) = some cl) {y : Code} {f f1 : Fr AV} {s s1 : St} {Z : RC → Prop} (he : excodes call n cl f s = .nor f1 s1)
    (hy : Runs P nt y f1 s1 Z) : Runs P nt (chainCode l y) f s Z := by
  induction l generalizing cl f s with
  | nil =>
    simp at hl; subst hl
    cases he; exact hy
  | cons c l ih =>
    simp only [List.mapM_cons, Option.bind_eq_bind, Option.bind_eq_some_iff, Option.pure_def, Option.some.injEq] at hl
    obtain ⟨c', hc, cl, hcl, rfl⟩ := hl
    have he' : seqK (excodes call n cl) (excode call n c' f s) = .nor f1 s1 := he
    have hne : excode call n c' f s ≠ .no := fun h0 => by rw [h0] at he'; cases he'
    refine Runs.seq (Runs.code hsc hdr n hc hne) (fun f2 s2 h2 => ?_) (fun rc hrc hn => ?_)
    · rw [← h2] at he'; exact ih hcl he'
    · exfalso
      rw [← hrc] at he'
      cases rc with
      | nor f2 s2 => exact hn f2 s2 rfl
      | no => cases he'
      | exit i f2 s2 => cases he'
      | ret f2 s2 => cases he'
/-- A function that goes over a map once. -/
structure MapFn (P : Program) (g : Nat) where
  fn : Func
  b : Code
  rs : List Res
  hf : P.funcs[g]? = some fn
  hb : fn.body = some b
  hname : fn.name ≠ "runtime.NumGoroutine"
  hrs : fn.results.toList.mapM (copRes P) = some rs
  hnt : fn.ntmps ≤ 256
  T : Turning P fn.ntmps
  pre : List Code
  cpre : List CC
  hpre : pre.mapM (cc P fn.ntmps) = some cpre
  post : Code
  cpost : CC
  hpost : cc P fn.ntmps post = some cpost
  id4 : Nat
  ops4 : Array Oper
  cd0 : CD
  cd1 : CD
  co0 : COp
  x : Tmp
  hR : Ranged P fn.ntmps id4 ops4 cd0 cd1 co0 x
  hbody : b = chainCode pre (.seq (.seq (.region id4 ops4 false) (.block T.id0 (.loop T.code))) post)
section
variable {g : Nat} (M : MapFn P g) (call : CallT) (n : Nat)
/-- Its answer, the entries in an order. -/
noncomputable def MapFn.by (ib : Id) (f2 : Fr AV) (s2 : St) (p : List (AV × AV)) : R := fin M.rs (seqK (excode call n M.cpost) (M.T.turns call n ib p f2 s2))
/-- .. alike in each order. -/
noncomputable def MapFn.alike (ib : Id) (f2 : Fr AV) (s2 : St) (r : AV) (ps : List (List (AV × AV))) : Bool :=
  List.rec true (fun p _ ih => br ((M.by call n ib f2 s2 p).on false fun v s => mt s true r v) ih false) ps
theorem MapFn.alike_ok {ib : Id} {f2 : Fr AV} {s2 : St} {r : AV} {ps : List (List (AV × AV))} (h : M.alike call n ib f2 s2 r ps = true) {p : List (AV × AV)} (hp : p ∈ ps) : ∃ v s, M.by call n ib f2 s2 p = .ok v s ∧ mt s true r v = true := by
  induction ps with
  | nil => simp at hp
  | cons q ps ih =>
    have h' : br ((M.by call n ib f2 s2 q).on false fun v s => mt s true r v) (M.alike call n ib f2 s2 r ps) false = true := h
    cases hq : ((M.by call n ib f2 s2 q).on false fun v s => mt s true r v) with
    | false => rw [hq] at h'; cases h'
    | true =>
      rw [hq, br_true] at h'
      rcases List.mem_cons.mp hp with rfl | hp
      · cases hb : M.by call n ib f2 s2 p with
        | no => rw [hb] at hq; cases hq
        | ok v s => rw [hb] at hq; exact ⟨v, s, rfl, hq⟩
      · exact ih h' hp
noncomputable def MapFn.ret2 (ib : Id) (f2 : Fr AV) (s2 : St) (es : List (AV × AV)) : Option AV :=
  (M.by call n ib f2 s2 es).on none fun v s => Option.rec none (fun r => br (M.alike call n ib f2 s2 r (perms es)) (some r) none) (vw s true 64 v)
noncomputable def MapFn.ret1 (f : Fr AV) (s : St) : Option AV :=
  (exop M.co0 call f s).on none fun v s1 => ((Sl.ofNat M.x).get (putD M.cd0 v f)).onMap none none fun mb => (s1.obj mb).onMap none fun es =>
    s1.n.up none fun n' => M.ret2 call n s1.n (putD M.cd1 (.ptr s1.n 0) (putD M.cd0 v f)) (.mk (mb.set .dead s1.h) n') es
noncomputable def MapFn.ret (args : List AV) : Option AV :=
  br (Nat.ble (ln args) M.fn.ntmps) ((excodes call n M.cpre (frame0 args) .empty).on none (fun f s => M.ret1 call n f s) (fun _ _ _ => none) fun _ _ => none) none
theorem MapFn.seen [Lay] (hsc : SoundCall P call) (hdr : DrawnOk P call) {args : List AV} {r : AV} (h : M.ret call n args = some r) : Seen P g args r := by
  unfold MapFn.ret at h
  cases hle : Nat.ble (ln args) M.fn.ntmps with
  | false => rw [hle] at h; cases h
  | true =>
    rw [hle, br_true] at h
    have hle' : args.length ≤ M.fn.ntmps := by have := Nat.le_of_ble_eq_true hle; rwa [ln_eq] at this
    cases hpre : excodes call n M.cpre (frame0 args) .empty with
    | no => rw [hpre] at h; cases h
    | exit i f s => rw [hpre] at h; cases h
    | ret f s => rw [hpre] at h; cases h
    | nor f s =>
      rw [hpre] at h
      have h1 : M.ret1 call n f s = some r := h
      unfold MapFn.ret1 at h1
      cases hx : exop M.co0 call f s with
      | no => rw [hx] at h1; cases h1
      | ok v s1 =>
        rw [hx] at h1
        have h2 : (((Sl.ofNat M.x).get (putD M.cd0 v f)).onMap none none fun mb => (s1.obj mb).onMap none fun es => s1.n.up none fun n' => M.ret2 call n s1.n (putD M.cd1 (.ptr s1.n 0) (putD M.cd0 v f)) (.mk (mb.set .dead s1.h) n') es) = some r := h1
        cases hm : (Sl.ofNat M.x).get (putD M.cd0 v f) <;> rw [hm] at h2 <;> first | (cases h2; done) | skip
        rename_i mb
        have h3 : ((s1.obj mb).onMap none fun es => s1.n.up none fun n' => M.ret2 call n s1.n (putD M.cd1 (.ptr s1.n 0) (putD M.cd0 v f)) (.mk (mb.set .dead s1.h) n') es) = some r := h2
        cases hes : s1.obj mb <;> rw [hes] at h3 <;> first | (cases h3; done) | skip
        rename_i es
        have h4 : (s1.n.up none fun n' => M.ret2 call n s1.n (putD M.cd1 (.ptr s1.n 0) (putD M.cd0 v f)) (.mk (mb.set .dead s1.h) n') es) = some r := h3
        rcases Id.up_spec s1.n (none : Option AV) (fun n' => M.ret2 call n s1.n (putD M.cd1 (.ptr s1.n 0) (putD M.cd0 v f)) (.mk (mb.set .dead s1.h) n') es) with hu | ⟨n', hn', hu⟩
        · rw [hu] at h4; cases h4
        · rw [hu] at h4
          have hal : M.alike call n s1.n (putD M.cd1 (.ptr s1.n 0) (putD M.cd0 v f)) (.mk (mb.set .dead s1.h) n') r (perms es) = true := by
            unfold MapFn.ret2 at h4
            cases hb : M.by call n s1.n (putD M.cd1 (.ptr s1.n 0) (putD M.cd0 v f)) (.mk (mb.set .dead s1.h) n') es with
            | no => rw [hb] at h4; cases h4
            | ok v' s' =>
              rw [hb] at h4
              have h5 : (Option.rec none (fun r => br (M.alike call n s1.n (putD M.cd1 (.ptr s1.n 0) (putD M.cd0 v f)) (.mk (mb.set .dead s1.h) n') r (perms es)) (some r) none) (vw s' true 64 v') : Option AV) = some r := h4
              cases hv : vw s' true 64 v' with
              | none => rw [hv] at h5; cases h5
              | some r' =>
                rw [hv] at h5
                have h6 : br (M.alike call n s1.n (putD M.cd1 (.ptr s1.n 0) (putD M.cd0 v f)) (.mk (mb.set .dead s1.h) n') r' (perms es)) (some r') none = some r := h5
                cases ha : M.alike call n s1.n (putD M.cd1 (.ptr s1.n 0) (putD M.cd0 v f)) (.mk (mb.set .dead s1.h) n') r' (perms es) with
                | false => rw [ha] at h6; cases h6
                | true => rw [ha, br_true] at h6; cases h6; exact ha
          have hby := fun (p : List (AV × AV)) (hp : p.Perm es) => M.alike_ok call n hal (mem_perms hp)
          intro F w vals rel hrl
          refine Calls.mono (fn_runs (Z := fun rc => ∃ p, p.Perm es ∧ rc = seqK (excode call n M.cpost) (M.T.turns call n s1.n p (putD M.cd1 (.ptr s1.n 0) (putD M.cd0 v f)) (.mk (mb.set .dead s1.h) n'))) (W := fun r0 s' => mt s' true r r0 = true) M.hf M.hb M.hrs M.hnt hle' ?_ (fun rc ⟨p, hp, e⟩ => ?_) rel hrl) (fun e w' ⟨r0, s', E', u, q1, q2, q3, q4⟩ => ⟨r0, s', E', u, q1, q2, q3, q4⟩)
          · rw [M.hbody]
            refine Runs.chain hsc hdr n M.hpre hpre ?_
            refine Runs.seq (Runs.range M.T hsc hdr n M.hR hx hm hes (s2 := .mk (mb.set .dead s1.h) n') hn' (fun b => Id.get_set b mb AO.dead s1.h) (fun p hp h0 => ?_)) (fun f3 s3 ⟨p, hp, e⟩ => ?_) (fun rc ⟨p, hp, e⟩ hn => ?_)
            · obtain ⟨v1, s3, h5, _⟩ := hby p hp
              unfold MapFn.by at h5
              rw [h0] at h5; cases h5
            · have hne : excode call n M.cpost f3 s3 ≠ .no := by
                obtain ⟨v1, s4, h5, _⟩ := hby p hp
                unfold MapFn.by at h5
                rw [← e] at h5
                intro h0
                have h6 : fin M.rs (excode call n M.cpost f3 s3) = .ok v1 s4 := h5
                rw [h0] at h6; cases h6
              refine (Runs.code hsc hdr n M.hpost hne).mono (fun rc hrc => ⟨p, hp, ?_⟩)
              rw [hrc, ← e]; rfl
            · refine ⟨p, hp, ?_⟩
              rw [← e]
              cases rc with
              | nor f3 s3 => exact absurd rfl (hn f3 s3)
              | _ => rfl
          · obtain ⟨v1, s3, h5, h6⟩ := hby p hp
            exact ⟨v1, s3, by rw [e]; exact h5, h6⟩
/-- The calls of it. -/
noncomputable def MapFn.pick (gid : Id) : Id → List AV → St → Option (List AV × AV) := fun g args s =>
  br (decide (g = gid)) (Option.rec none (fun pa => Option.rec none (fun r => some (pa, r)) (M.ret call n pa)) (mapO (vw s false 64) false args)) none
theorem MapFn.sound [Lay] [Bare] (hsc : SoundCall P call) (hdr : ∀ call, SoundCall P call → DrawnOk P call) {gid : Id} (hg : gid.val = g) {call2 : CallT} (h2 : SoundCall P call2) : SoundCall P (picks (M.pick call n gid) call2) := by
  refine seen_sound h2 (fun g' args s en hen => ?_)
  unfold MapFn.pick at hen
  by_cases hgg : g' = gid
  · rw [decide_eq_true hgg, br_true] at hen
    cases hv : mapO (vw s false 64) false args with
    | none => rw [hv] at hen; cases hen
    | some pa =>
      rw [hv] at hen
      have hen' : (Option.rec none (fun r => some (pa, r)) (M.ret call n pa) : Option (List AV × AV)) = some en := hen
      cases hr : M.ret call n pa with
      | none => rw [hr] at hen'; cases hen'
      | some r =>
        rw [hr] at hen'
        cases hen'
        subst hgg
        refine ⟨vws_mts hv, ⟨M.fn, by rw [hg]; exact M.hf, by rw [M.hb]; rfl, M.hname⟩, ?_⟩
        rw [hg]
        exact M.seen call n hsc (hdr call hsc) hr
  · rw [decide_eq_false hgg, br_false] at hen; cases hen
end
end Go.Vm
namespace Go.Vm
set_option linter.unusedVariables false
variable {P : Program}
def cFst : Code → Code
  | .seq a _ => a
  | c => c
def cSnd : Code → Code
  | .seq _ b => b
  | c => c
def cOps : Code → Array Oper
  | .region _ o _ => o
  | _ => #[]
def cId : Code → Nat
  | .region i _ _ => i
  | .block i _ => i
  | .cond _ _ (.exit i) => i
  | _ => 0
def cIn : Code → Code
  | .block _ c => c
  | .loop c => c
  | c => c
def cCnd : Code → Operand
  | .cond c _ _ => c
  | _ => .const (.bool false)
def oAt (l : List Oper) (i : Nat) : Oper := l.getD i default
noncomputable def CR.dd (c : Option CR) : CD := Option.rec .none (fun c => CR.rec (fun d _ _ => d) c) c
noncomputable def CR.dop (c : Option CR) : COp := Option.rec .mkmap (fun c => CR.rec (fun _ o _ => o) c) c
/-- Calls, of which some are told; the quick machine. -/
noncomputable def qevP (pk : Id → List AV → St → Option (List AV × AV)) (C : Tab CF) (k : Nat) : CallT :=
  Nat.rec (motive := fun _ => CallT) (fun _ _ _ => .no) (fun k ih => picks pk fun g args s => qevF ih k (g.get C) args s) k
theorem qevP_sound [Lay] {pk : Id → List AV → St → Option (List AV × AV)} (hdr : ∀ call, SoundCall P call → DrawnOk P call) (hpk : ∀ call, SoundCall P call → SoundCall P (picks pk call)) (k : Nat) : SoundCall P (qevP pk (prog P) k) := by
  induction k with
  | zero => exact fun g args s r s' h => R.noConfusion h
  | succ k ih =>
    refine hpk _ (fun g args s r s' h => ?_)
    rw [qevF_eq] at h
    exact evF_sound ih hdr k h
/-- One table of what is told behind another. -/
noncomputable def pkOr (a b : Id → List AV → St → Option (List AV × AV)) : Id → List AV → St → Option (List AV × AV) := fun g args s => Option.rec (b g args s) (fun e => some e) (a g args s)
theorem pkOr_sound [Lay] {a b : Id → List AV → St → Option (List AV × AV)} (ha : ∀ call, SoundCall P call → SoundCall P (picks a call)) (hb : ∀ call, SoundCall P call → SoundCall P (picks b call)) (call : CallT) (hc : SoundCall P call) : SoundCall P (picks (pkOr a b) call) := by
  have e : picks (pkOr a b) call = picks a (picks b call) := by
    funext g args s
    unfold picks pkOr
    cases a g args s <;> rfl
  rw [e]
  exact ha _ (hb _ hc)
end Go.Vm
namespace Go.Vm
set_option linter.unusedVariables false
variable {P : Program}
/-- There is such a function. -/
def Has (P : Program) (g : Nat) : Prop := ∃ fn, P.funcs[g]? = some fn ∧ fn.body.isNone = false ∧ fn.name ≠ "runtime.NumGoroutine"
theorem seen_of [Lay] {base : CallT} (hb : SoundCall P base) {g : Id} {args : List AV} {ret : AV} (h : sees base g (args, ret) = true) : Has P g.val ∧ Seen P g.val args ret := by
  obtain ⟨r0, s', h1, h2⟩ := sees_ok h
  have h3 := hb g args .empty r0 s' h1
  exact ⟨h3.1, fun F w vals rel hrl => Calls.mono (h3.2 F w vals rel hrl) fun e w' ⟨E', v, q1, q2, q3⟩ => ⟨r0, s', E', v, h2, q1, q2, q3⟩⟩
/-- Calls of a function, told by a number that the arguments tell. -/
noncomputable def pkBy (gid : Id) (num : List AV → St → Nat) (most : Nat) (pat : Nat → List AV) (res : Nat → AV) : Id → List AV → St → Option (List AV × AV) := fun g args s =>
  br (decide (g = gid)) (br (brB (Nat.ble (num args s) most) (mt.mts s false (pat (num args s)) args) false) (some (pat (num args s), res (num args s))) none) none
theorem pkBy_sound [Lay] [Bare] {gid : Id} {num : List AV → St → Nat} {most : Nat} {pat : Nat → List AV} {res : Nat → AV} (hg : Has P gid.val) (h : ∀ d, d ≤ most → Seen P gid.val (pat d) (res d)) (call : CallT) (hc : SoundCall P call) : SoundCall P (picks (pkBy gid num most pat res) call) := by
  refine seen_sound hc (fun g args s en hen => ?_)
  unfold pkBy at hen
  by_cases hgg : g = gid
  · rw [decide_eq_true hgg, br_true] at hen
    rw [brB_and] at hen
    cases hq : (Nat.ble (num args s) most && mt.mts s false (pat (num args s)) args) with
    | false => rw [hq] at hen; cases hen
    | true =>
      rw [hq, br_true] at hen
      cases hen
      simp only [Bool.and_eq_true, Nat.ble_eq] at hq
      subst hgg
      exact ⟨hq.2, hg, h _ hq.1⟩
  · rw [decide_eq_false hgg, br_false] at hen; cases hen
/-- One told call. -/
theorem pkOne_sound [Lay] [Bare] {gid : Id} {pa : List AV} {r : AV} (hg : Has P gid.val) (h : Seen P gid.val pa r) (call : CallT) (hc : SoundCall P call) : SoundCall P (picks (pkBy gid (fun _ _ => 0) 0 (fun _ => pa) fun _ => r) call) :=
  pkBy_sound hg (fun _ _ => h) call hc
noncomputable def allFrom (n : Nat) : Nat → (Nat → Bool) → Bool := Nat.rec (motive := fun _ => Nat → (Nat → Bool) → Bool) (fun _ _ => true) (fun _ ih i p => brB (p i) (ih (i + 1) p) false) n
theorem from_at {n i : Nat} {p : Nat → Bool} (h : allFrom n i p = true) (j : Nat) (h1 : i ≤ j) (h2 : j < i + n) : p j = true := by
  induction n generalizing i with
  | zero => omega
  | succ n ih =>
    have h' : brB (p i) (allFrom n (i + 1) p) false = true := h
    rw [brB_and, Bool.and_eq_true] at h'
    by_cases e : i = j
    · rw [← e]; exact h'.1
    · exact ih h'.2 (by omega) (by omega)
theorem wr_small (n : Nat) (h : n < 1000) : wr .i64 (.ofNat n) = .ofNat n := by
  rw [wr_eq]
  simp only [IntKind.wrap, IntKind.bits, IntKind.signed]
  simp
  omega
noncomputable def cellsOf (s : St) (v : AV) : List AV := AV.onSl v [] [] (fun b o _ _ _ => dr o (s.obj b).row) fun cs _ _ _ => cs
end Go.Vm
namespace Go.Vm
set_option linter.unusedVariables false
variable {P : Program}
/-- Of a state these blocks alone; .. all but these. -/
noncomputable def onlyK (K : List Id) (s : St) : St := .mk (List.rec (motive := fun _ => Tab AO) (.rep .dead) (fun b _ ih => b.qset (s.qobj b) ih) K) s.n
noncomputable def killK (K : List Id) (s : St) : St := .mk (List.rec (motive := fun _ => Tab AO) s.h (fun b _ ih => b.qset .dead ih) K) s.n
theorem onlyK_obj (K : List Id) (s : St) (b : Id) : (onlyK K s).obj b = .dead ∨ ((onlyK K s).obj b = s.obj b ∧ b ∈ K) := by
  show b.get (List.rec (motive := fun _ => Tab AO) (.rep .dead) (fun b _ ih => b.qset (s.qobj b) ih) K) = _ ∨ _ = _ ∧ _
  induction K with
  | nil => exact .inl (Id.get_rep b _)
  | cons c K ih =>
    have e : b.get (c.qset (s.qobj c) (List.rec (motive := fun _ => Tab AO) (.rep .dead) (fun b _ ih => b.qset (s.qobj b) ih) K)) = if b = c then s.qobj c else b.get (List.rec (motive := fun _ => Tab AO) (.rep .dead) (fun b _ ih => b.qset (s.qobj b) ih) K) := by rw [Id.qset_eq]; exact Id.get_set b c _ _
    by_cases h : b = c
    · rw [if_pos h] at e
      refine .inr ⟨?_, by rw [h]; exact List.mem_cons_self⟩
      exact e.trans (by rw [St.qobj_eq, h])
    · rw [if_neg h] at e
      rcases ih with h1 | ⟨h1, h2⟩
      · exact .inl (e.trans h1)
      · exact .inr ⟨e.trans h1, List.mem_cons_of_mem _ h2⟩
theorem killK_obj (K : List Id) (s : St) (b : Id) : (b ∈ K ∧ (killK K s).obj b = .dead) ∨ (b ∉ K ∧ (killK K s).obj b = s.obj b) := by
  show _ ∧ b.get (List.rec (motive := fun _ => Tab AO) s.h (fun b _ ih => b.qset .dead ih) K) = _ ∨ _ ∧ b.get (List.rec (motive := fun _ => Tab AO) s.h (fun b _ ih => b.qset .dead ih) K) = _
  induction K with
  | nil => exact .inr ⟨by simp, rfl⟩
  | cons c K ih =>
    have e : b.get (c.qset .dead (List.rec (motive := fun _ => Tab AO) s.h (fun b _ ih => b.qset .dead ih) K)) = if b = c then .dead else b.get (List.rec (motive := fun _ => Tab AO) s.h (fun b _ ih => b.qset .dead ih) K) := by rw [Id.qset_eq]; exact Id.get_set b c _ _
    by_cases h : b = c
    · rw [if_pos h] at e
      exact .inl ⟨by rw [h]; exact List.mem_cons_self, e⟩
    · rw [if_neg h] at e
      rcases ih with ⟨h1, h2⟩ | ⟨h1, h2⟩
      · exact .inl ⟨List.mem_cons_of_mem _ h1, e.trans h2⟩
      · exact .inr ⟨fun hm => (List.mem_cons.mp hm).elim h h1, e.trans h2⟩
/-- What is told of a call from nothing: its answer may lie in what came in. -/
def SeenF [Lay] (P : Program) (g : Nat) (args : List AV) (ret : AV) : Prop :=
  ∀ F w vals, Rel St.empty F w → RL F w args vals → Calls P g vals.toArray w fun e w' => ∃ r s' E' v, mt s' false ret r = true ∧ e = .returned v ∧ RV E' w' r v ∧ Went .empty F w s' E' w'
noncomputable def picksF (pk : Id → List AV → St → Option (List Id × List AV × AV)) (call : CallT) : CallT := fun g args s => Option.rec (call g args s) (fun e => .ok e.2.2 (killK e.1 s)) (pk g args s)
theorem seenF_sound [Lay] [Bare] {pk : Id → List AV → St → Option (List Id × List AV × AV)} {call : CallT} (hc : SoundCall P call)
    (h : ∀ g args s en, pk g args s = some en → mt.mts (onlyK en.1 s) false en.2.1 args = true ∧ Has P g.val ∧ SeenF P g.val en.2.1 en.2.2) : SoundCall P (picksF pk call) := by
  intro g args s r s' hr
  cases hT : pk g args s with
  | none =>
    have e : picksF pk call g args s = call g args s := by unfold picksF; rw [hT]
    rw [e] at hr
    exact hc g args s r s' hr
  | some en =>
    have e : picksF pk call g args s = .ok en.2.2 (killK en.1 s) := by unfold picksF; rw [hT]
    rw [e] at hr
    obtain ⟨rfl, rfl⟩ := ok_inj hr
    obtain ⟨hm, hfn, hseen⟩ := h g args s en hT
    refine ⟨hfn, fun E w vals rel hrl => ?_⟩
    have hdead : ∀ b, St.empty.obj b = .dead := empty_obj
    have hok : RelH (onlyK en.1 s).obj E w := rel.h.kill (fun b => (onlyK_obj en.1 s b).imp id And.left)
    have hlive : ∀ b, (onlyK en.1 s).obj b ≠ .dead → s.obj b ≠ .dead ∧ b ∈ en.1 := fun b hb => by
      rcases onlyK_obj en.1 s b with h1 | ⟨h1, h2⟩
      · exact absurd h1 hb
      · exact ⟨by rw [← h1]; exact hb, h2⟩
    let F : Env := ⟨E.φ, fun k => E.I k ∨ ∃ b, (onlyK en.1 s).obj b ≠ .dead ∧ (E.φ b).block = k, fun _ => False⟩
    have hF : RL F w en.2.1 vals := (mt_rv (F := F) (own := false) hok (fun b hb => .inr ⟨b, hb, rfl⟩) (fun _ k hk => .inl hk) (SizeOf.sizeOf en.2.1)).2.2 _ _ (Nat.le_refl _) hm vals hrl
    have hFs : ∀ k, F.I k → k < w.heap.size := fun k hk => hk.elim (rel.h.seen k) (fun ⟨b, hb, e⟩ => by rw [← e]; exact hok.block_lt hb)
    have hRF : Rel St.empty F w := ⟨fun b _ h => h, ⟨(fun b cs h => by rw [hdead] at h; cases h), (fun b es h => by rw [hdead] at h; cases h), fun b h => absurd (hdead b) h, fun b c h => absurd (hdead b) h, fun b h => absurd (hdead b) h, hFs⟩, rel.laid.on (fun _ hk => .inl hk) fun _ _ => rfl⟩
    refine Calls.mono (hseen F w vals hRF hF) ?_
    rintro e w' ⟨r0, s1, E1, v, h2, rfl, k1, k2⟩
    have hold : ∀ k, k < w.heap.size → w'.heap[k]? = w.heap[k]? := fun k hk => k2.ext.keep k hk (fun b hb => absurd (hdead b) hb)
    have hnew : ∀ b, s1.obj b ≠ .dead → w.heap.size ≤ (E1.φ b).block ∧ (E1.φ b).block < w'.heap.size := fun b hb => by
      refine ⟨?_, k2.rel.h.block_lt hb⟩
      rcases k2.ext.new b hb with ⟨c, hc, _⟩ | hge
      · exact absurd (hdead c) hc
      · exact hge
    let G : Env := ⟨E.φ, fun k => E1.I k ∨ F.I k ∨ ∃ b, s1.obj b ≠ .dead ∧ (E1.φ b).block = k, E.D⟩
    have hle : Le E w G w' := ⟨fun _ h => h, fun _ _ => rfl, fun _ h => .inr (.inl (.inl h)), fun k hk => hold k (rel.h.seen k hk), .of_old hold⟩
    have hG : ∀ k, G.I k → F.I k ∨ (w.heap.size ≤ k ∧ k < w'.heap.size) := fun k hk => by
      rcases hk with hk | hk | ⟨b, hb, e⟩
      · rcases k2.ext.seen k hk with h1 | h1 | ⟨b, hb, _⟩
        · exact .inl h1
        · exact .inr ⟨h1, k2.rel.h.seen k hk⟩
        · exact absurd (hdead b) hb
      · exact .inl hk
      · exact .inr (by rw [← e]; exact hnew b hb)
    have hv : RV G w' en.2.2 v := (mt_rv (F := G) (own := false) k2.rel.h (fun b hb => .inr (.inr ⟨b, hb, rfl⟩)) (fun _ k hk => .inl hk) (SizeOf.sizeOf en.2.2)).1 _ _ (Nat.le_refl _) h2 v k1
    have hkl : ∀ b, (killK en.1 s).obj b ≠ .dead → b ∉ en.1 ∧ s.obj b ≠ .dead := fun b hb => by
      rcases killK_obj en.1 s b with ⟨_, h1⟩ | ⟨h1, h3⟩
      · exact absurd h1 hb
      · exact ⟨h1, by rw [← h3]; exact hb⟩
    have hRK : RelH (killK en.1 s).obj E w := rel.h.kill (fun b => (killK_obj en.1 s b).imp And.right And.right)
    have rk : RelH (killK en.1 s).obj G w' := by
      refine ⟨fun b cs hb => ?_, fun b es hb => ?_, fun b hb => hRK.old b hb, hRK.inj, fun b hb hI => ?_, fun k hk => ?_⟩
      · have hne : (killK en.1 s).obj b ≠ .dead := by rw [hb]; intro h; cases h
        obtain ⟨c, e, us, H⟩ := hRK.cells b cs hb
        exact ⟨c, e, us, by rw [show (G.φ b) = E.φ b from rfl, hold _ (hRK.block_lt hne)]; exact H.heap, H.row.mono hle, H.at_, H.one⟩
      · have hne : (killK en.1 s).obj b ≠ .dead := by rw [hb]; intro h; cases h
        obtain ⟨ms, cl, H⟩ := hRK.map b es hb
        exact ⟨ms, cl, by rw [show (G.φ b) = E.φ b from rfl, hold _ (hRK.block_lt hne)]; exact H.heap, H.keys.mono hle, H.vals.mono hle, H.born⟩
      · obtain ⟨g1, g2⟩ := hkl b hb
        rcases hG _ hI with h1 | h1
        · rcases h1 with h1 | ⟨c, hc, ec⟩
          · exact rel.h.apart b g2 h1
          · obtain ⟨q1, q2⟩ := hlive c hc
            exact rel.h.inj c b q1 g2 (fun e => g1 (e ▸ q2)) ec
        · have h3 := rel.h.block_lt g2
          have h4 : w.heap.size ≤ (E.φ b).block := h1.1
          omega
      · rcases hG k hk with h1 | h1
        · exact Nat.lt_of_lt_of_le (hFs k h1) k2.ext.size
        · exact h1.2
    refine ⟨G, v, rfl, hv, ⟨⟨rel.n, rk, rel.laid.le hle⟩, Nat.le_refl _, ?_⟩⟩
    refine ⟨fun _ h => h, fun _ _ => rfl, fun _ h => .inl h, fun _ h => .inr (.inl (.inl h)), fun k hk => ?_, k2.ext.os, k2.ext.tape, k2.ext.output, k2.ext.size, fun k hk _ => hold k hk, .of_old hold, fun b hb => .inl ⟨b, (hkl b hb).2, rfl⟩⟩
    rcases hG k hk with h1 | h1
    · rcases h1 with h1 | ⟨c, hc, ec⟩
      · exact .inl h1
      · exact .inr (.inr ⟨c, (hlive c hc).1, ec⟩)
    · exact .inr (.inl h1.1)
noncomputable def seesF (base : CallT) (g : Id) (e : List AV × AV) : Bool := (base g e.1 .empty).on false fun r s => mt s false e.2 r
theorem seenF_of [Lay] {base : CallT} (hb : SoundCall P base) {g : Id} {args : List AV} {ret : AV} (h : seesF base g (args, ret) = true) : Has P g.val ∧ SeenF P g.val args ret := by
  unfold seesF at h
  cases hq : base g args .empty with
  | no =>
    have h' : ((base g args .empty).on false fun r s => mt s false ret r) = true := h
    rw [hq] at h'; cases h'
  | ok r0 s' =>
    have h' : ((base g args .empty).on false fun r s => mt s false ret r) = true := h
    rw [hq] at h'
    have h3 := hb g args .empty r0 s' hq
    exact ⟨h3.1, fun F w vals rel hrl => Calls.mono (h3.2 F w vals rel hrl) fun e w' ⟨E', v, q1, q2, q3⟩ => ⟨r0, s', E', v, h', q1, q2, q3⟩⟩
noncomputable def idsOf (v : AV) : List Id := AV.onSl v [] [] (fun b _ _ _ _ => [b]) fun _ _ _ _ => []
noncomputable def pkByF (gid : Id) (num : List AV → St → Nat) (most : Nat) (pat : Nat → List AV) (res : Nat → AV) (ids : List AV → List Id) : Id → List AV → St → Option (List Id × List AV × AV) := fun g args s =>
  br (decide (g = gid)) (br (brB (Nat.ble (num args s) most) (mt.mts (onlyK (ids args) s) false (pat (num args s)) args) false) (some (ids args, pat (num args s), res (num args s))) none) none
theorem pkByF_sound [Lay] [Bare] {gid : Id} {num : List AV → St → Nat} {most : Nat} {pat : Nat → List AV} {res : Nat → AV} {ids : List AV → List Id} (hg : Has P gid.val) (h : ∀ d, d ≤ most → SeenF P gid.val (pat d) (res d)) (call : CallT) (hc : SoundCall P call) : SoundCall P (picksF (pkByF gid num most pat res ids) call) := by
  refine seenF_sound hc (fun g args s en hen => ?_)
  unfold pkByF at hen
  by_cases hgg : g = gid
  · rw [decide_eq_true hgg, br_true] at hen
    rw [brB_and] at hen
    cases hq : (Nat.ble (num args s) most && mt.mts (onlyK (ids args) s) false (pat (num args s)) args) with
    | false => rw [hq] at hen; cases hen
    | true =>
      rw [hq, br_true] at hen
      cases hen
      simp only [Bool.and_eq_true, Nat.ble_eq] at hq
      subst hgg
      exact ⟨hq.2, hg, h _ hq.1⟩
  · rw [decide_eq_false hgg, br_false] at hen; cases hen
/-- Calls, of which some are told, by whatever; the quick machine. -/
noncomputable def qevX (X : CallT → CallT) (C : Tab CF) (k : Nat) : CallT :=
  Nat.rec (motive := fun _ => CallT) (fun _ _ _ => .no) (fun k ih => X fun g args s => qevF ih k (g.get C) args s) k
theorem qevX_sound [Lay] {X : CallT → CallT} (hdr : ∀ call, SoundCall P call → DrawnOk P call) (hX : ∀ call, SoundCall P call → SoundCall P (X call)) (k : Nat) : SoundCall P (qevX X (prog P) k) := by
  induction k with
  | zero => exact fun g args s r s' h => R.noConfusion h
  | succ k ih =>
    refine hX _ (fun g args s r s' h => ?_)
    rw [qevF_eq] at h
    exact evF_sound ih hdr k h
end Go.Vm
namespace Go.Vm
set_option linter.unusedVariables false
variable {P : Program}
noncomputable def pInt (v : AV) (h : IntKind → Int → Bool) : Bool := AV.onInt v false h
noncomputable def pStr (v : AV) (h : List UInt8 → Bool) : Bool := AV.onStr v false h
noncomputable def pPtr (v : AV) (h : Id → Nat → Bool) (g : List AV → Bool) : Bool := AV.onPtr v false h g
noncomputable def pSl (v : AV) (e : Bool) (h : Id → Nat → Nat → Nat → Nat → Bool) (g : List AV → Nat → Nat → Bool → Bool) : Bool := AV.onSl v false e h g
noncomputable def pAgg (v : AV) (h : List AV → Bool) : Bool := AV.onAgg v false h
noncomputable def qrow (s : St) (b : Id) (o : Nat) : List AV := dr o (s.qobj b).row
noncomputable def fm (s : St) (own : Bool) : AV → AV → Bool :=
  AV.rec (motive_1 := fun _ => AV → Bool) (motive_2 := fun _ => List AV → Bool)
    (fun b v => mt s own (.bool b) v) (fun k n v => pInt v fun j m => brB (keq k j) (ieq n m) false) (fun l v => pStr v fun m => beqs l m) (fun v => mt s own .nilp v) (fun b o v => mt s own (.ptr b o) v)
    (fun l ih v => pPtr v (fun b o => ih (qrow s b o)) fun m => brB own false (ih m)) (fun v => pSl v true (fun _ _ _ _ _ => false) fun _ _ _ _ => false) (fun b o k c x v => mt s own (.sl b o k c x) v)
    (fun l n c x ih v => pSl v false (fun b o k d y => brB (brB x false (brB (Nat.beq n k) (Nat.ble c n) false)) (ih (qrow s b o)) false) fun m k d y => brB (brB own true x) false (brB (brB (Nat.beq n k) (Nat.ble c n) false) (ih m) false))
    (fun v => mt s own .nilm v) (fun b v => mt s own (.map b) v) (fun v => mt s own .nilf v) (fun f a b _ _ v => mt s own (.fn f a b) v) (fun v => mt s own .nili v) (fun t a _ v => mt s own (.ifc t a) v)
    (fun l ih v => pAgg v fun m => brB (Nat.beq (ln l) (ln m)) (ih m) false) (fun l _ v => mt s own (.tup l) v)
    (fun _ => true) (fun a l iha ihl m => List.rec (motive := fun _ => Bool) false (fun b r _ => brB (brB a.one (iha b) false) (ihl r) false) m)
noncomputable def fmL (s : St) (own : Bool) : List AV → List AV → Bool :=
  AV.rec_1 (motive_1 := fun _ => AV → Bool) (motive_2 := fun _ => List AV → Bool)
    (fun b v => mt s own (.bool b) v) (fun k n v => pInt v fun j m => brB (keq k j) (ieq n m) false) (fun l v => pStr v fun m => beqs l m) (fun v => mt s own .nilp v) (fun b o v => mt s own (.ptr b o) v)
    (fun l ih v => pPtr v (fun b o => ih (qrow s b o)) fun m => brB own false (ih m)) (fun v => pSl v true (fun _ _ _ _ _ => false) fun _ _ _ _ => false) (fun b o k c x v => mt s own (.sl b o k c x) v)
    (fun l n c x ih v => pSl v false (fun b o k d y => brB (brB x false (brB (Nat.beq n k) (Nat.ble c n) false)) (ih (qrow s b o)) false) fun m k d y => brB (brB own true x) false (brB (brB (Nat.beq n k) (Nat.ble c n) false) (ih m) false))
    (fun v => mt s own .nilm v) (fun b v => mt s own (.map b) v) (fun v => mt s own .nilf v) (fun f a b _ _ v => mt s own (.fn f a b) v) (fun v => mt s own .nili v) (fun t a _ v => mt s own (.ifc t a) v)
    (fun l ih v => pAgg v fun m => brB (Nat.beq (ln l) (ln m)) (ih m) false) (fun l _ v => mt s own (.tup l) v)
    (fun _ => true) (fun a l iha ihl m => List.rec (motive := fun _ => Bool) false (fun b r _ => brB (brB a.one (iha b) false) (ihl r) false) m)
theorem brB_not (a b : Bool) : brB a false b = (!a && b) := by cases a <;> rfl
theorem qrow_eq (s : St) (b : Id) (o : Nat) : qrow s b o = (s.obj b).row.drop o := by unfold qrow; rw [dr_eq, St.qobj_eq]
theorem fmL_nil (s : St) (own : Bool) (m : List AV) : fmL s own [] m = true := rfl
theorem fmL_cons (s : St) (own : Bool) (a b : AV) (l m : List AV) : fmL s own (a :: l) (b :: m) = brB (brB a.one (fm s own a b) false) (fmL s own l m) false := rfl
theorem fmL_none (s : St) (own : Bool) (a : AV) (l : List AV) : fmL s own (a :: l) [] = false := rfl
theorem fm_ts (s : St) (own : Bool) (l : List AV) (n c : Nat) (x : Bool) (v : AV) : fm s own (.ts l n c x) v = pSl v false (fun b o k d y => brB (brB x false (brB (Nat.beq n k) (Nat.ble c n) false)) (fmL s own l (qrow s b o)) false) fun m k d y => brB (brB own true x) false (brB (brB (Nat.beq n k) (Nat.ble c n) false) (fmL s own l m) false) := rfl
theorem fm_tp (s : St) (own : Bool) (l : List AV) (v : AV) : fm s own (.tp l) v = pPtr v (fun b o => fmL s own l (qrow s b o)) fun m => brB own false (fmL s own l m) := rfl
theorem fm_agg (s : St) (own : Bool) (l : List AV) (v : AV) : fm s own (.agg l) v = pAgg v fun m => brB (Nat.beq (ln l) (ln m)) (fmL s own l m) false := rfl
theorem nbeq (a b : Nat) : Nat.beq a b = (a == b) := by rw [Bool.eq_iff_iff]; simp
theorem fm_eq (s : St) (own : Bool) : ∀ (n : Nat), (∀ a v : AV, SizeOf.sizeOf a ≤ n → fm s own a v = mt s own a v) ∧ (∀ l m : List AV, SizeOf.sizeOf l ≤ n → fmL s own l m = mt.mtp s own l m) := by
  intro n
  induction n with
  | zero =>
    refine ⟨fun a v h => ?_, fun l m h => ?_⟩
    · cases a <;> simp at h
    · cases l <;> simp at h
  | succ n ih =>
    obtain ⟨iha, ihl⟩ := ih
    refine ⟨fun a v h => ?_, fun l m h => ?_⟩
    · cases a with
      | int k i => cases v <;> first | rfl | (show brB (keq k _) (ieq i _) false = _; rw [brB_and, ieq_eq]; rfl)
      | str l => cases v <;> first | rfl | (show beqs l _ = _; rw [beqs_eq]; rfl)
      | nils => cases v <;> rfl
      | ts l k c x =>
        have hl := fun m => ihl l m (by simp at h; omega)
        rw [fm_ts]
        cases v <;> first | rfl | (show brB (brB x false (brB (Nat.beq k _) (Nat.ble c k) false)) (fmL s own l (qrow s _ _)) false = _; rw [brB_and, brB_not, brB_and, nbeq, hl, qrow_eq]; simp [mt, Bool.and_assoc]) | (show brB (brB own true x) false (brB (brB (Nat.beq k _) (Nat.ble c k) false) (fmL s own l _) false) = _; rw [brB_not, brB_or, brB_and, brB_and, nbeq, hl]; cases own <;> cases x <;> simp [mt, Bool.and_assoc])
      | tp l =>
        have hl := fun m => ihl l m (by simp at h; omega)
        rw [fm_tp]
        cases v <;> first | rfl | (show fmL s own l (qrow s _ _) = _; rw [hl, qrow_eq]; rfl) | (show brB own false (fmL s own l _) = _; rw [brB_not, hl]; rfl)
      | agg l =>
        have hl := fun m => ihl l m (by simp at h; omega)
        rw [fm_agg]
        cases v <;> first | rfl | (show brB (Nat.beq (ln l) (ln _)) (fmL s own l _) false = _; rw [brB_and, nbeq, hl, ln_eq, ln_eq]; rfl)
      | _ => rfl
    · cases l with
      | nil => cases m <;> rfl
      | cons a l =>
        cases m with
        | nil => rfl
        | cons b m =>
          rw [fmL_cons, brB_and, brB_and, iha a b (by simp at h; omega), ihl l m (by simp at h; omega)]
          rfl
/-- Rows of arguments. -/
noncomputable def fms (s : St) (l : List AV) : List AV → Bool :=
  List.rec (motive := fun _ => List AV → Bool) (fun m => List.rec (motive := fun _ => Bool) true (fun _ _ _ => false) m) (fun a l ihl m => List.rec (motive := fun _ => Bool) false (fun b r _ => brB (fm s false a b) (ihl r) false) m) l
theorem fms_eq (s : St) (l m : List AV) : fms s l m = mt.mts s false l m := by
  induction l generalizing m with
  | nil => cases m <;> rfl
  | cons a l ih =>
    cases m with
    | nil => rfl
    | cons b m =>
      show brB (fm s false a b) (fms s l m) false = _
      rw [brB_and, (fm_eq s false (SizeOf.sizeOf a)).1 a b (Nat.le_refl _), ih]
      rfl
/-- Calls told by a number, by the quick match. -/
noncomputable def pkByQ (gid : Id) (num : List AV → St → Nat) (most : Nat) (pat : Nat → List AV) (res : Nat → AV) : Id → List AV → St → Option (List AV × AV) := fun g args s =>
  br (decide (g = gid)) (br (brB (Nat.ble (num args s) most) (fms s (pat (num args s)) args) false) (some (pat (num args s), res (num args s))) none) none
theorem pkByQ_eq : pkByQ = pkBy := by
  funext gid num most pat res g args s
  unfold pkByQ pkBy
  rw [fms_eq]
noncomputable def pkByFQ (gid : Id) (num : List AV → St → Nat) (most : Nat) (pat : Nat → List AV) (res : Nat → AV) (ids : List AV → List Id) : Id → List AV → St → Option (List Id × List AV × AV) := fun g args s =>
  br (decide (g = gid)) (br (brB (Nat.ble (num args s) most) (fms (onlyK (ids args) s) (pat (num args s)) args) false) (some (ids args, pat (num args s), res (num args s))) none) none
theorem pkByFQ_eq : pkByFQ = pkByF := by
  funext gid num most pat res ids g args s
  unfold pkByFQ pkByF
  rw [fms_eq]
/-- Told answers in a row: the first whose arguments match. -/
noncomputable def lookQ (es : List (List AV × AV)) (args : List AV) (s : St) : Option (List AV × AV) := List.rec none (fun e _ ih => br (fms s e.1 args) (some e) ih) es
theorem lookQ_eq : lookQ = look := by
  funext es args s
  induction es with
  | nil => rfl
  | cons e es ih =>
    show br (fms s e.1 args) (some e) (lookQ es args s) = br (mt.mts s false e.1 args) (some e) (look es args s)
    rw [fms_eq, ih]
end Go.Vm
