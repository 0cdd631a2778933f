/- The abstract machine is sound: the statements whose order is open: what compiling has checked. No condition. -/
import Derived.Test.YtjnejkganejdbaaVmX
namespace Go.Vm
set_option linter.unusedVariables false
variable {P : Program}
structure Opn (P : Program) (nt : Nat) (ops : Array Oper) (l : List DR) : Prop where
  len : l.length = ops.size
  op : ∀ (j : Nat) (d : DR), l[j]? = some d → ∃ o, ops[j]? = some o ∧ d.i = j ∧ DstOk nt o.dst d.cr.cd ∧ cop P o.op = some d.cr.cop ∧ copG ops o.guard = some d.cr.guard ∧ d.kind = d.cr.cop.kind
  back : ∀ (j : Nat) (o : Oper), ops[j]? = some o → ∀ e ∈ o.after.toList, Region.binds .any e = true → e.on < j
  pre : ∀ (j : Nat) (d : DR) (o : Oper) (i : Nat), l[j]? = some d → ops[j]? = some o → i < l.length → bit d.pre i = true → ∃ e ∈ o.after.toList, Region.binds .any e = true ∧ (e.on = i ∨ ∃ d' : DR, l[e.on]? = some d' ∧ bit d'.pre i = true)
  apart : ∀ (i j : Nat) (x y : DR), i < j → l[i]? = some x → l[j]? = some y → bit y.pre i = true ∨ ((∀ t, x.cr.dst = some t → t ∉ y.cr.names) ∧ ∀ t, y.cr.dst = some t → t ∉ x.cr.names)
theorem drs_get {nt : Nat} {ops : Array Oper} {pre : List Nat} {os : List Oper} {i : Nat} {l : List DR} (h : drs P nt ops pre os i = some l) : l.length = os.length ∧ ∀ (j : Nat) (d : DR), l[j]? = some d → ∃ o, os[j]? = some o ∧ d.i = i + j ∧ d.pre = pre.getD (i + j) 0 ∧ copR P nt ops o = some d.cr ∧ cop P o.op = some d.cr.cop ∧ d.kind = d.cr.cop.kind := by
  induction os generalizing i l with
  | nil => cases h; exact ⟨rfl, fun j d h => by simp at h⟩
  | cons o os ih =>
    simp only [drs, Option.bind_eq_bind, Option.bind_eq_some_iff, Option.some.injEq] at h
    obtain ⟨c, hc, l', hl', op, hop, rfl⟩ := h
    obtain ⟨h1, h2⟩ := ih hl'
    refine ⟨by simp [h1], fun j d hj => ?_⟩
    cases j with
    | zero =>
      simp at hj
      subst hj
      have hcop : c.cop = op := by
        have hc' := hc
        simp only [copR, Option.bind_eq_bind, Option.bind_eq_some_iff, Option.some.injEq] at hc'
        obtain ⟨cd, _, co, hco, cg, _, rfl⟩ := hc'
        rw [hop] at hco; cases hco; rfl
      exact ⟨o, rfl, rfl, rfl, hc, by rw [hop, ← hcop]; rfl, by show op.kind = c.cop.kind; rw [hcop]⟩
    | succ j =>
      obtain ⟨o', g1, g2, g3, g4⟩ := h2 j d (by simpa using hj)
      exact ⟨o', by simpa using g1, by rw [g2]; omega, by rw [g3]; congr 1; omega, g4⟩
theorem offs_ok {d : Option Sl} {ns : List Sl} (h : offs d ns = true) : ∀ t, d = some t → t ∉ ns := by
  intro t ht
  subst ht
  simpa [offs] using h
theorem apart1_get {x : DR} {l : List DR} (h : apart1 x l = true) {y : DR} (hy : y ∈ l) : bit y.pre x.i = true ∨ ((∀ t, x.cr.dst = some t → t ∉ y.cr.names) ∧ ∀ t, y.cr.dst = some t → t ∉ x.cr.names) := by
  induction l with
  | nil => cases hy
  | cons z l ih =>
    simp only [apart1, Bool.and_eq_true, Bool.or_eq_true] at h
    rcases List.mem_cons.mp hy with rfl | hy
    · exact h.1.imp id (fun h => ⟨offs_ok h.1, offs_ok h.2⟩)
    · exact ih h.2 hy
theorem apartOk_get {l : List DR} (h : apartOk l = true) : ∀ (i j : Nat) (x y : DR), i < j → l[i]? = some x → l[j]? = some y → bit y.pre x.i = true ∨ ((∀ t, x.cr.dst = some t → t ∉ y.cr.names) ∧ ∀ t, y.cr.dst = some t → t ∉ x.cr.names) := by
  induction l with
  | nil => intro i j x y _ h; simp at h
  | cons z l ih =>
    simp only [apartOk, Bool.and_eq_true] at h
    intro i j x y hij hx hy
    cases j with
    | zero => omega
    | succ j =>
      rw [List.getElem?_cons_succ] at hy
      cases i with
      | zero => simp at hx; subst hx; exact apart1_get h.1 (List.mem_of_getElem? hy)
      | succ i => exact ih h.2 i j x y (by omega) (by simpa using hx) hy
theorem open_of_cc {nt : Nat} {ops : Array Oper} {c : CC} (h : ccDrawn P nt ops = some c) : ∃ l, c = .drawn l ∧ Opn P nt ops l := by
  simp only [ccDrawn] at h
  split at h <;> first | (cases h; done) | skip
  rename_i hpre
  rw [Option.bind_eq_some_iff] at h
  obtain ⟨l, hl, h⟩ := h
  split at h <;> first | (cases h; done) | skip
  rename_i hap
  cases h
  obtain ⟨hlen, hget⟩ := drs_get hl
  have hlen' : l.length = ops.size := by rw [hlen, Array.length_toList]
  have hp : ∀ j o, ops[j]? = some o → (∀ e ∈ o.after.toList, Region.binds .any e = true → e.on < j) ∧ ∀ i, i < ops.size → bit ((pres ops.toList []).getD j 0) i = true → ∃ e ∈ o.after.toList, Region.binds .any e = true ∧ (e.on = i ∨ bit ((pres ops.toList []).getD e.on 0) i = true) := by
    intro j o ho
    have hj : j < ops.size := (Array.getElem?_eq_some_iff.mp ho).1
    unfold preOk at hpre
    rw [List.all_eq_true] at hpre
    have h1 := hpre j (List.mem_range.mpr hj)
    simp only [ho, Bool.and_eq_true] at h1
    refine ⟨fun e he hb => ?_, fun i hi hb => ?_⟩
    · have h2 := (List.all_eq_true.mp h1.1) e he
      rw [hb] at h2; simpa using h2
    · have h2 := (List.all_eq_true.mp h1.2) i (List.mem_range.mpr hi)
      rw [hb] at h2
      simp only [Bool.not_true, Bool.false_or] at h2
      obtain ⟨e, he, h3⟩ := List.any_eq_true.mp h2
      simp only [Bool.and_eq_true, Bool.or_eq_true, beq_iff_eq] at h3
      exact ⟨e, he, h3.1, h3.2⟩
  have hat : ∀ (j : Nat) (d : DR), l[j]? = some d → ∃ o, ops[j]? = some o ∧ d.i = j ∧ d.pre = (pres ops.toList []).getD j 0 ∧ copR P nt ops o = some d.cr ∧ cop P o.op = some d.cr.cop ∧ d.kind = d.cr.cop.kind := by
    intro j d hd
    obtain ⟨o, g1, g2, g3, g4⟩ := hget j d hd
    rw [Nat.zero_add] at g2 g3
    exact ⟨o, by rw [← Array.getElem?_toList]; exact g1, g2, g3, g4⟩
  refine ⟨l, rfl, hlen', ?_, fun j o ho => (hp j o ho).1, ?_, ?_⟩
  · intro j d hd
    obtain ⟨o, g1, g2, _, g4, g5, g6⟩ := hat j d hd
    simp only [copR, Option.bind_eq_bind, Option.bind_eq_some_iff, Option.some.injEq] at g4
    obtain ⟨cd, hcd, co, hco, cg, hcg, hcr⟩ := g4
    refine ⟨o, g1, g2, ?_, g5, ?_, g6⟩
    · rw [← hcr]; exact copD_ok hcd
    · rw [← hcr]; exact hcg
  · intro j d o i hd ho hi hb
    obtain ⟨o', g1, _, g3, _⟩ := hat j d hd
    rw [ho] at g1; cases g1
    rw [g3] at hb
    obtain ⟨e, he, h1, h2⟩ := (hp j o ho).2 i (by omega) hb
    refine ⟨e, he, h1, h2.imp (fun h => h) (fun h3 => ?_)⟩
    have hlt := (hp j o ho).1 e he h1
    have hj : j < ops.size := (Array.getElem?_eq_some_iff.mp ho).1
    have hle : e.on < l.length := by omega
    obtain ⟨_, _, _, g4, _⟩ := hat e.on _ (List.getElem?_eq_getElem hle)
    exact ⟨l[e.on], List.getElem?_eq_getElem hle, by rw [g4]; exact h3⟩
  · intro i j x y hij hx hy
    obtain ⟨_, _, g2, _⟩ := hat i x hx
    have := apartOk_get hap i j x y hij hx hy
    rwa [g2] at this
/-- What is listed has what comes ahead of it listed. -/
theorem Opn.closed {nt : Nat} {ops : Array Oper} {l : List DR} (O : Opn P nt ops l) {L : Nat → Prop} (hL : ∀ (j : Nat) (o : Oper), ops[j]? = some o → L j → ∀ e ∈ o.after.toList, Region.binds .any e = true → L e.on) :
    ∀ (n j : Nat) (d : DR), j ≤ n → l[j]? = some d → (∀ o : Oper, ops[j]? = some o → ∀ e ∈ o.after.toList, Region.binds .any e = true → L e.on) → ∀ i, i < l.length → bit d.pre i = true → L i ∧ i < j := by
  intro n
  induction n with
  | zero =>
    intro j d hj hd hr i hi hb
    obtain ⟨o, ho, _⟩ := O.op j d hd
    obtain ⟨e, he, h1, h2⟩ := O.pre j d o i hd ho hi hb
    have := O.back j o ho e he h1
    omega
  | succ n ih =>
    intro j d hj hd hr i hi hb
    obtain ⟨o, ho, _⟩ := O.op j d hd
    obtain ⟨e, he, h1, h2⟩ := O.pre j d o i hd ho hi hb
    have hlt := O.back j o ho e he h1
    have hle := hr o ho e he h1
    rcases h2 with rfl | ⟨d', hd', hb'⟩
    · exact ⟨hle, hlt⟩
    · have := ih e.on d' (by omega) hd' (fun o' ho' => hL e.on o' ho' hle) i hi hb'
      exact ⟨this.1, by omega⟩
end Go.Vm
