/- The abstract machine is sound: statements whose order is open. No condition. -/
import Derived.Test.YtfndnjmnakdglaaGreatDoorVmR
import Derived.Orders
namespace Go.Vm
set_option linter.unusedVariables false
variable {P : Program}
structure Chain (call : CallT) (l : List DR) (S : Nat → DS) : Prop where
  step : ∀ j (d : DR), l[j]? = some d → DStep call d (S j) (S (j + 1))
  idx : ∀ j (d : DR), l[j]? = some d → d.i = j
  ps0 : (S 0).ps = []
  rs0 : (S 0).rs = []
  ws0 : (S 0).ws = []
def isMut (d : DR) (S : DS) : Prop := d.kind = .mut ∧ d.want S = true
def isNew (d : DR) (S : DS) : Prop := d.kind = .alloc ∧ d.want S = true
section
variable {call : CallT} {l : List DR} {S : Nat → DS}
theorem Chain.get (C : Chain call l S) {j : Nat} (h : j < l.length) : ∃ d, l[j]? = some d ∧ DStep call d (S j) (S (j + 1)) := ⟨l[j], List.getElem?_eq_getElem h, C.step j _ (List.getElem?_eq_getElem h)⟩
theorem Chain.name (C : Chain call l S) : ∀ j, j ≤ l.length → (S j).b.val = (S 0).b.val + j := by
  intro j
  induction j with
  | zero => intro _; rfl
  | succ j ih =>
    intro h
    obtain ⟨d, _, hs⟩ := C.get (show j < l.length by omega)
    rw [hs.1, ih (by omega)]; omega
theorem CR.dst_cd (c : CR) : (c.dst = none ∧ c.cd = .none) ∨ ∃ s, c.dst = some s ∧ c.cd = .d s := by
  obtain ⟨cd, op, g⟩ := c
  cases cd with
  | none => exact .inl ⟨rfl, rfl⟩
  | d s => exact .inr ⟨s, rfl, rfl⟩
theorem putD_get {c : CR} {v : AV} {f : Fr AV} (t : Sl) : t.get (putD c.cd v f) = if c.dst = some t then v else t.get f := by
  rcases c.dst_cd with ⟨h1, h2⟩ | ⟨s, h1, h2⟩
  · rw [h1, h2, if_neg (by simp)]; rfl
  · rw [h1, h2]
    show t.get (s.set v f) = _
    rw [Sl.get_set]
    by_cases h : t = s
    · rw [if_pos h, if_pos (by rw [h])]
    · rw [if_neg h, if_neg (fun e => h (Option.some.inj e).symm)]
theorem DStep.frame {d : DR} {S0 S1 : DS} (h : DStep call d S0 S1) : ∃ v, S1.f = putD d.cr.cd v S0.f := by
  rcases h.2 with ⟨_, h, _⟩ | ⟨_, v, h, _⟩
  · exact ⟨undef, h⟩
  · exact ⟨v, h⟩
theorem Chain.frame (C : Chain call l S) {t : Sl} {j : Nat} : ∀ k, j ≤ k → k ≤ l.length → (∀ i d, l[i]? = some d → j ≤ i → i < k → d.cr.dst ≠ some t) → t.get (S k).f = t.get (S j).f := by
  intro k
  induction k with
  | zero => intro h _ _; rw [show j = 0 by omega]
  | succ k ih =>
    intro h hk hn
    by_cases hj : j = k + 1
    · rw [hj]
    · obtain ⟨d, hd, hs⟩ := C.get (show k < l.length by omega)
      obtain ⟨v, hv⟩ := hs.frame
      rw [hv, putD_get, if_neg (hn k d hd (by omega) (by omega))]
      exact ih (by omega) (by omega) (fun i e hi h1 h2 => hn i e hi h1 (by omega))
theorem DStep.still {d : DR} {S0 S1 : DS} (h : DStep call d S0 S1) (hn : ¬ isMut d S0) : S1.h = S0.h ∧ S1.n = S0.n := by
  rcases h.2 with ⟨_, _, h1, h2, _⟩ | ⟨hw, v, _, hk⟩
  · exact ⟨h1, h2⟩
  · cases hkk : d.kind with
    | quiet => rw [hkk] at hk; exact ⟨hk.2.1, hk.2.2.1⟩
    | alloc => rw [hkk] at hk; exact ⟨hk.2.1, hk.2.2.1⟩
    | read => rw [hkk] at hk; exact ⟨hk.2.1, hk.2.2.1⟩
    | «mut» => exact absurd ⟨hkk, hw⟩ hn
theorem Chain.heap (C : Chain call l S) {j : Nat} : ∀ k, j ≤ k → k ≤ l.length → (∀ i d, l[i]? = some d → j ≤ i → i < k → ¬ isMut d (S i)) → (S k).h = (S j).h ∧ (S k).n = (S j).n := by
  intro k
  induction k with
  | zero => intro h _ _; rw [show j = 0 by omega]; exact ⟨rfl, rfl⟩
  | succ k ih =>
    intro h hk hn
    by_cases hj : j = k + 1
    · rw [hj]; exact ⟨rfl, rfl⟩
    · obtain ⟨d, hd, hs⟩ := C.get (show k < l.length by omega)
      obtain ⟨h1, h2⟩ := hs.still (hn k d hd (by omega) (by omega))
      obtain ⟨h3, h4⟩ := ih (by omega) (by omega) (fun i e hi h5 h6 => hn i e hi h5 (by omega))
      exact ⟨h1.trans h3, h2.trans h4⟩
theorem DStep.lists {d : DR} {S0 S1 : DS} (h : DStep call d S0 S1) : (∀ x ∈ S0.rs, x ∈ S1.rs) ∧ (∀ x ∈ S0.ws, x ∈ S1.ws) := by
  rcases h.2 with ⟨_, _, _, _, _, h1, h2⟩ | ⟨hw, v, _, hk⟩
  · exact ⟨fun x hx => by rw [h1]; exact hx, fun x hx => by rw [h2]; exact hx⟩
  · cases hkk : d.kind with
    | quiet => rw [hkk] at hk; obtain ⟨_, _, _, _, h1, h2⟩ := hk; exact ⟨fun x hx => by rw [h1]; exact hx, fun x hx => by rw [h2]; exact hx⟩
    | alloc => rw [hkk] at hk; obtain ⟨_, _, _, _, h1, h2⟩ := hk; exact ⟨fun x hx => by rw [h1]; exact hx, fun x hx => by rw [h2]; exact hx⟩
    | read => rw [hkk] at hk; obtain ⟨_, _, _, _, h1, h2⟩ := hk; exact ⟨fun x hx => by rw [h1]; exact List.mem_cons_of_mem _ hx, fun x hx => by rw [h2]; exact hx⟩
    | «mut» => rw [hkk] at hk; obtain ⟨_, _, _, _, h1, h2⟩ := hk; exact ⟨fun x hx => by rw [h1]; exact hx, fun x hx => by rw [h2]; exact List.mem_cons_of_mem _ hx⟩
theorem Chain.lists (C : Chain call l S) {j : Nat} : ∀ k, j ≤ k → k ≤ l.length → (∀ x ∈ (S j).rs, x ∈ (S k).rs) ∧ (∀ x ∈ (S j).ws, x ∈ (S k).ws) := by
  intro k
  induction k with
  | zero => intro h _; rw [show j = 0 by omega]; exact ⟨fun _ h => h, fun _ h => h⟩
  | succ k ih =>
    intro h hk
    by_cases hj : j = k + 1
    · rw [hj]; exact ⟨fun _ h => h, fun _ h => h⟩
    · obtain ⟨d, hd, hs⟩ := C.get (show k < l.length by omega)
      obtain ⟨h1, h2⟩ := ih (by omega) (by omega)
      exact ⟨fun x hx => hs.lists.1 x (h1 x hx), fun x hx => hs.lists.2 x (h2 x hx)⟩
theorem Chain.wrote (C : Chain call l S) {j k : Nat} {d : DR} (hd : l[j]? = some d) (hm : isMut d (S j)) (hjk : j < k) (hk : k ≤ l.length) : ⟨j, (S j).h⟩ ∈ (S k).ws := by
  refine (C.lists k hjk hk).2 _ ?_
  have hs := C.step j d hd
  rcases hs.2 with ⟨hw, _⟩ | ⟨_, v, _, hkk⟩
  · rw [hm.2] at hw; cases hw
  · rw [hm.1] at hkk
    obtain ⟨_, _, _, _, _, h2⟩ := hkk
    rw [h2, C.idx j d hd]; exact List.mem_cons_self
theorem Chain.read (C : Chain call l S) {j k : Nat} {d : DR} (hd : l[j]? = some d) {v : AV} (hk' : d.kind = .read) (hw : d.want (S j) = true) (hv : (S (j + 1)).f = putD d.cr.cd v (S j).f) (hx : KStep call d (S j) (S (j + 1)) v .read) (hjk : j < k) (hk : k ≤ l.length) : ⟨j, (S j).f, d.cr.cop, v⟩ ∈ (S k).rs := by
  refine (C.lists k hjk hk).1 _ ?_
  obtain ⟨_, _, _, _, h2, _⟩ := hx
  rw [h2, C.idx j d hd]; exact List.mem_cons_self
theorem writesOk_mem {pre : Nat} {n : Id} {f : Fr AV} {op : COp} {v : AV} {ws : List Wr} (h : writesOk pre n f op v ws = true) {x : Wr} (hx : x ∈ ws) (hb : bit pre x.i = false) : again x.h n f op v = true := by
  induction ws with
  | nil => cases hx
  | cons y ws ih =>
    simp only [writesOk, Bool.and_eq_true, Bool.or_eq_true] at h
    rcases List.mem_cons.mp hx with rfl | hx
    · exact h.1.resolve_left (by rw [hb]; simp)
    · exact ih h.2 hx
theorem readsOk_mem {pre : Nat} {h : Tab AO} {n : Id} {rs : List Rd} (hh : readsOk pre h n rs = true) {x : Rd} (hx : x ∈ rs) (hb : bit pre x.i = false) : again h n x.f x.op x.v = true := by
  induction rs with
  | nil => cases hx
  | cons y rs ih =>
    simp only [readsOk, Bool.and_eq_true, Bool.or_eq_true] at hh
    rcases List.mem_cons.mp hx with rfl | hx
    · exact hh.1.resolve_left (by rw [hb]; simp)
    · exact ih hh.2 hx
theorem allPre_mem {pre : Nat} {is : List Nat} (h : allPre pre is = true) {i : Nat} (hi : i ∈ is) : bit pre i = true := by
  induction is with
  | nil => cases hi
  | cons j is ih =>
    simp only [allPre, Bool.and_eq_true] at h
    rcases List.mem_cons.mp hi with rfl | hi
    · exact h.1
    · exact ih h.2 hi
def Pending (l : List DR) (S : Nat → DS) (k i : Nat) (d : DR) : Prop := l[i]? = some d ∧ isNew d (S i) ∧ ∀ j e, l[j]? = some e → isMut e (S j) → i < j → j < k → bit e.pre i = false
theorem Chain.pend (C : Chain call l S) : ∀ k, k ≤ l.length → ∀ p : Pd, p ∈ (S k).ps ↔ ∃ i d, i < k ∧ Pending l S k i d ∧ p = ⟨i, (S i).b, made d (S i)⟩ := by
  intro k
  induction k with
  | zero => intro _ p; rw [C.ps0]; exact ⟨(fun h => by cases h), fun ⟨i, _, h, _⟩ => by omega⟩
  | succ k ih =>
    intro hk p
    have ih := ih (by omega)
    obtain ⟨d, hd, hs⟩ := C.get (show k < l.length by omega)
    -- a step that is no write and makes nothing
    have same : ¬ isMut d (S k) → ¬ isNew d (S k) → (S (k + 1)).ps = (S k).ps → (p ∈ (S (k + 1)).ps ↔ ∃ i d, i < k + 1 ∧ Pending l S (k + 1) i d ∧ p = ⟨i, (S i).b, made d (S i)⟩) := by
      intro hm hn hps
      rw [hps, ih p]
      constructor
      · rintro ⟨i, e, h1, ⟨h2, h3, h4⟩, h5⟩
        refine ⟨i, e, by omega, ⟨h2, h3, fun j q hq hqm h6 h7 => ?_⟩, h5⟩
        by_cases hj : j = k
        · subst hj; rw [hd] at hq; cases hq; exact absurd hqm hm
        · exact h4 j q hq hqm h6 (by omega)
      · rintro ⟨i, e, h1, ⟨h2, h3, h4⟩, h5⟩
        have hik : i ≠ k := fun h => by subst h; rw [hd] at h2; cases h2; exact hn h3
        exact ⟨i, e, by omega, ⟨h2, h3, fun j q hq hqm h6 h7 => h4 j q hq hqm h6 (by omega)⟩, h5⟩
    rcases hs.2 with ⟨hw, _, _, _, hps, _⟩ | ⟨hw, v, _, hkk⟩
    · exact same (fun h => by rw [h.2] at hw; cases hw) (fun h => by rw [h.2] at hw; cases hw) hps
    · cases hq : d.kind with
      | quiet => rw [hq] at hkk; exact same (fun h => by rw [h.1] at hq; cases hq) (fun h => by rw [h.1] at hq; cases hq) hkk.2.2.2.1
      | read => rw [hq] at hkk; exact same (fun h => by rw [h.1] at hq; cases hq) (fun h => by rw [h.1] at hq; cases hq) hkk.2.2.2.1
      | alloc =>
        rw [hq] at hkk
        obtain ⟨_, _, _, hps, _⟩ := hkk
        rw [hps, List.mem_cons, ih p, C.idx k d hd]
        constructor
        · rintro (h | ⟨i, e, h1, ⟨h2, h3, h4⟩, h5⟩)
          · exact ⟨k, d, by omega, ⟨hd, ⟨hq, hw⟩, fun j q _ _ h6 h7 => by omega⟩, h⟩
          · refine ⟨i, e, by omega, ⟨h2, h3, fun j q hq' hqm h6 h7 => ?_⟩, h5⟩
            by_cases hj : j = k
            · subst hj; rw [hd] at hq'; cases hq'; rw [hqm.1] at hq; cases hq
            · exact h4 j q hq' hqm h6 (by omega)
        · rintro ⟨i, e, h1, ⟨h2, h3, h4⟩, h5⟩
          by_cases hik : i = k
          · subst hik; rw [hd] at h2; cases h2; exact .inl h5
          · exact .inr ⟨i, e, by omega, ⟨h2, h3, fun j q hq hqm h6 h7 => h4 j q hq hqm h6 (by omega)⟩, h5⟩
      | «mut» =>
        rw [hq] at hkk
        obtain ⟨_, _, _, hps, _⟩ := hkk
        rw [hps, List.mem_filter, ih p]
        constructor
        · rintro ⟨⟨i, e, h1, ⟨h2, h3, h4⟩, h5⟩, h6⟩
          refine ⟨i, e, by omega, ⟨h2, h3, fun j q hq' hqm h7 h8 => ?_⟩, h5⟩
          by_cases hj : j = k
          · subst hj; rw [hd] at hq'; cases hq'
            rw [h5] at h6; simpa using h6
          · exact h4 j q hq' hqm h7 (by omega)
        · rintro ⟨i, e, h1, ⟨h2, h3, h4⟩, h5⟩
          have hik : i ≠ k := fun h => by subst h; rw [hd] at h2; cases h2; rw [h3.1] at hq; cases hq
          refine ⟨⟨i, e, by omega, ⟨h2, h3, fun j q hq hqm h6 h7 => h4 j q hq hqm h6 (by omega)⟩, h5⟩, ?_⟩
          have := h4 k d hd ⟨hq, hw⟩ (by omega) (by omega)
          rw [h5]; simp [this]
end
end Go.Vm
namespace Go.Vm
set_option linter.unusedVariables false
variable {P : Program}
structure Opn (P : Program) (nt : Nat) (ops : Array Oper) (l : List DR) : Prop where
  len : l.length = ops.size
  op : ∀ (j : Nat) (d : DR), l[j]? = some d → ∃ o, ops[j]? = some o ∧ d.i = j ∧ DstOk nt o.dst d.cr.cd ∧ cop P o.op = some d.cr.cop ∧ copG ops o.guard = some d.cr.guard ∧ d.kind = d.cr.cop.kind
  back : ∀ (j : Nat) (o : Oper), ops[j]? = some o → ∀ e ∈ o.after.toList, Region.binds .any e = true → e.on < j
  pre : ∀ (j : Nat) (d : DR) (o : Oper) (i : Nat), l[j]? = some d → ops[j]? = some o → i < l.length → bit d.pre i = true → ∃ e ∈ o.after.toList, Region.binds .any e = true ∧ (e.on = i ∨ ∃ d' : DR, l[e.on]? = some d' ∧ bit d'.pre i = true)
  apart : ∀ (i j : Nat) (x y : DR), i < j → l[i]? = some x → l[j]? = some y → bit y.pre i = true ∨ ((∀ t, x.cr.dst = some t → t ∉ y.cr.names) ∧ ∀ t, y.cr.dst = some t → t ∉ x.cr.names)
theorem drs_get {nt : Nat} {ops : Array Oper} {pre : List Nat} {os : List Oper} {i : Nat} {l : List DR} (h : drs P nt ops pre os i = some l) : l.length = os.length ∧ ∀ (j : Nat) (d : DR), l[j]? = some d → ∃ o, os[j]? = some o ∧ d.i = i + j ∧ d.pre = pre.getD (i + j) 0 ∧ copR P nt ops o = some d.cr ∧ cop P o.op = some d.cr.cop ∧ d.kind = d.cr.cop.kind := by
  induction os generalizing i l with
  | nil => cases h; exact ⟨rfl, fun j d h => by simp at h⟩
  | cons o os ih =>
    simp only [drs, Option.bind_eq_bind, Option.bind_eq_some_iff, Option.some.injEq] at h
    obtain ⟨c, hc, l', hl', op, hop, rfl⟩ := h
    obtain ⟨h1, h2⟩ := ih hl'
    refine ⟨by simp [h1], fun j d hj => ?_⟩
    cases j with
    | zero =>
      simp at hj
      subst hj
      have hcop : c.cop = op := by
        have hc' := hc
        simp only [copR, Option.bind_eq_bind, Option.bind_eq_some_iff, Option.some.injEq] at hc'
        obtain ⟨cd, _, co, hco, cg, _, rfl⟩ := hc'
        rw [hop] at hco; cases hco; rfl
      exact ⟨o, rfl, rfl, rfl, hc, by rw [hop, ← hcop]; rfl, by show op.kind = c.cop.kind; rw [hcop]⟩
    | succ j =>
      obtain ⟨o', g1, g2, g3, g4⟩ := h2 j d (by simpa using hj)
      exact ⟨o', by simpa using g1, by rw [g2]; omega, by rw [g3]; congr 1; omega, g4⟩
theorem offs_ok {d : Option Sl} {ns : List Sl} (h : offs d ns = true) : ∀ t, d = some t → t ∉ ns := by
  intro t ht
  subst ht
  simpa [offs] using h
theorem apart1_get {x : DR} {l : List DR} (h : apart1 x l = true) {y : DR} (hy : y ∈ l) : bit y.pre x.i = true ∨ ((∀ t, x.cr.dst = some t → t ∉ y.cr.names) ∧ ∀ t, y.cr.dst = some t → t ∉ x.cr.names) := by
  induction l with
  | nil => cases hy
  | cons z l ih =>
    simp only [apart1, Bool.and_eq_true, Bool.or_eq_true] at h
    rcases List.mem_cons.mp hy with rfl | hy
    · exact h.1.imp id (fun h => ⟨offs_ok h.1, offs_ok h.2⟩)
    · exact ih h.2 hy
theorem apartOk_get {l : List DR} (h : apartOk l = true) : ∀ (i j : Nat) (x y : DR), i < j → l[i]? = some x → l[j]? = some y → bit y.pre x.i = true ∨ ((∀ t, x.cr.dst = some t → t ∉ y.cr.names) ∧ ∀ t, y.cr.dst = some t → t ∉ x.cr.names) := by
  induction l with
  | nil => intro i j x y _ h; simp at h
  | cons z l ih =>
    simp only [apartOk, Bool.and_eq_true] at h
    intro i j x y hij hx hy
    cases j with
    | zero => omega
    | succ j =>
      rw [List.getElem?_cons_succ] at hy
      cases i with
      | zero => simp at hx; subst hx; exact apart1_get h.1 (List.mem_of_getElem? hy)
      | succ i => exact ih h.2 i j x y (by omega) (by simpa using hx) hy
theorem open_of_cc {nt : Nat} {ops : Array Oper} {c : CC} (h : ccDrawn P nt ops = some c) : ∃ l, c = .drawn l ∧ Opn P nt ops l := by
  simp only [ccDrawn] at h
  split at h <;> first | (cases h; done) | skip
  rename_i hpre
  rw [Option.bind_eq_some_iff] at h
  obtain ⟨l, hl, h⟩ := h
  split at h <;> first | (cases h; done) | skip
  rename_i hap
  cases h
  obtain ⟨hlen, hget⟩ := drs_get hl
  have hlen' : l.length = ops.size := by rw [hlen, Array.length_toList]
  have hp : ∀ j o, ops[j]? = some o → (∀ e ∈ o.after.toList, Region.binds .any e = true → e.on < j) ∧ ∀ i, i < ops.size → bit ((pres ops.toList []).getD j 0) i = true → ∃ e ∈ o.after.toList, Region.binds .any e = true ∧ (e.on = i ∨ bit ((pres ops.toList []).getD e.on 0) i = true) := by
    intro j o ho
    have hj : j < ops.size := (Array.getElem?_eq_some_iff.mp ho).1
    unfold preOk at hpre
    rw [List.all_eq_true] at hpre
    have h1 := hpre j (List.mem_range.mpr hj)
    simp only [ho, Bool.and_eq_true] at h1
    refine ⟨fun e he hb => ?_, fun i hi hb => ?_⟩
    · have h2 := (List.all_eq_true.mp h1.1) e he
      rw [hb] at h2; simpa using h2
    · have h2 := (List.all_eq_true.mp h1.2) i (List.mem_range.mpr hi)
      rw [hb] at h2
      simp only [Bool.not_true, Bool.false_or] at h2
      obtain ⟨e, he, h3⟩ := List.any_eq_true.mp h2
      simp only [Bool.and_eq_true, Bool.or_eq_true, beq_iff_eq] at h3
      exact ⟨e, he, h3.1, h3.2⟩
  have hat : ∀ (j : Nat) (d : DR), l[j]? = some d → ∃ o, ops[j]? = some o ∧ d.i = j ∧ d.pre = (pres ops.toList []).getD j 0 ∧ copR P nt ops o = some d.cr ∧ cop P o.op = some d.cr.cop ∧ d.kind = d.cr.cop.kind := by
    intro j d hd
    obtain ⟨o, g1, g2, g3, g4⟩ := hget j d hd
    rw [Nat.zero_add] at g2 g3
    exact ⟨o, by rw [← Array.getElem?_toList]; exact g1, g2, g3, g4⟩
  refine ⟨l, rfl, hlen', ?_, fun j o ho => (hp j o ho).1, ?_, ?_⟩
  · intro j d hd
    obtain ⟨o, g1, g2, _, g4, g5, g6⟩ := hat j d hd
    simp only [copR, Option.bind_eq_bind, Option.bind_eq_some_iff, Option.some.injEq] at g4
    obtain ⟨cd, hcd, co, hco, cg, hcg, hcr⟩ := g4
    refine ⟨o, g1, g2, ?_, g5, ?_, g6⟩
    · rw [← hcr]; exact copD_ok hcd
    · rw [← hcr]; exact hcg
  · intro j d o i hd ho hi hb
    obtain ⟨o', g1, _, g3, _⟩ := hat j d hd
    rw [ho] at g1; cases g1
    rw [g3] at hb
    obtain ⟨e, he, h1, h2⟩ := (hp j o ho).2 i (by omega) hb
    refine ⟨e, he, h1, h2.imp (fun h => h) (fun h3 => ?_)⟩
    have hlt := (hp j o ho).1 e he h1
    have hj : j < ops.size := (Array.getElem?_eq_some_iff.mp ho).1
    have hle : e.on < l.length := by omega
    obtain ⟨_, _, _, g4, _⟩ := hat e.on _ (List.getElem?_eq_getElem hle)
    exact ⟨l[e.on], List.getElem?_eq_getElem hle, by rw [g4]; exact h3⟩
  · intro i j x y hij hx hy
    obtain ⟨_, _, g2, _⟩ := hat i x hx
    have := apartOk_get hap i j x y hij hx hy
    rwa [g2] at this
theorem Opn.closed {nt : Nat} {ops : Array Oper} {l : List DR} (O : Opn P nt ops l) {L : Nat → Prop} (hL : ∀ (j : Nat) (o : Oper), ops[j]? = some o → L j → ∀ e ∈ o.after.toList, Region.binds .any e = true → L e.on) :
    ∀ (n j : Nat) (d : DR), j ≤ n → l[j]? = some d → (∀ o : Oper, ops[j]? = some o → ∀ e ∈ o.after.toList, Region.binds .any e = true → L e.on) → ∀ i, i < l.length → bit d.pre i = true → L i ∧ i < j := by
  intro n
  induction n with
  | zero =>
    intro j d hj hd hr i hi hb
    obtain ⟨o, ho, _⟩ := O.op j d hd
    obtain ⟨e, he, h1, h2⟩ := O.pre j d o i hd ho hi hb
    have := O.back j o ho e he h1
    omega
  | succ n ih =>
    intro j d hj hd hr i hi hb
    obtain ⟨o, ho, _⟩ := O.op j d hd
    obtain ⟨e, he, h1, h2⟩ := O.pre j d o i hd ho hi hb
    have hlt := O.back j o ho e he h1
    have hle := hr o ho e he h1
    rcases h2 with rfl | ⟨d', hd', hb'⟩
    · exact ⟨hle, hlt⟩
    · have := ih e.on d' (by omega) hd' (fun o' ho' => hL e.on o' ho' hle) i hi hb'
      exact ⟨this.1, by omega⟩
end Go.Vm
namespace Go.Vm
set_option linter.unusedVariables false
variable {P : Program}
structure Inv (nt : Nat) (l : List DR) (S : Nat → DS) (s : St) (E0 : Env) (w0 : World) (L : Nat → Prop) (m : Nat) (F : Fr AV) (O : Id → AO) (E : Env) (a : Act) (w : World) : Prop where
  m_le : m ≤ l.length
  cut : ∀ (j : Nat) (d : DR), l[j]? = some d → isMut d (S j) → (L j ↔ j < m)
  rf : RF E w nt F a
  fr : ∀ (t : Sl) (k : Nat), k ≤ l.length → (∀ (j : Nat) (d : DR), l[j]? = some d → d.cr.dst = some t → (L j ↔ j < k)) → t.get F = t.get (S k).f
  rh : RelH O E w
  pend : ∀ (i : Nat) (d : DR), L i → Pending l S m i d → O (S i).b = made d (S i) ∧ (S i).b.get (S m).h = .dead ∧ made d (S i) ≠ .dead
  rest : ∀ b : Id, (∀ (i : Nat) (d : DR), L i → Pending l S m i d → b ≠ (S i).b) → O b = b.get (S m).h
  ids : ∀ b : Id, E.D b → E0.D b ∨ (∃ (i : Nat) (d : DR), l[i]? = some d ∧ isNew d (S i) ∧ L i ∧ b = (S i).b) ∨ (s.n.val + l.length ≤ b.val ∧ b.val < (S m).n.val)
  nn : s.n.val + l.length ≤ (S m).n.val
  ext : ExtH s.n.val (S m).n.val s.obj E0 w0 O E w
section
variable {call : CallT} {nt : Nat} {ops : Array Oper} {l : List DR} {S : Nat → DS} {s : St} {E0 E : Env} {w0 w : World} {L : Nat → Prop} {m : Nat} {F : Fr AV} {O : Id → AO} {a : Act}
theorem Inv.names (I : Inv nt l S s E0 w0 L m F O E a w) (Op : Opn P nt ops l) (hL : ∀ (j : Nat) (d : DR), l[j]? = some d → L j → ∀ i, i < l.length → bit d.pre i = true → L i) {i : Nat} {d : DR} (hd : l[i]? = some d) (hi : ¬ L i)
    (hpre : ∀ j, j < l.length → bit d.pre j = true → L j) : ∀ t ∈ d.cr.names, t.get F = t.get (S i).f := by
  intro t ht
  have hlt : i < l.length := (List.getElem?_eq_some_iff.mp hd).1
  refine I.fr t i (by omega) (fun j e he hdst => ?_)
  have hj : j < l.length := (List.getElem?_eq_some_iff.mp he).1
  constructor
  · intro hLj
    apply Decidable.byContradiction
    intro hge
    by_cases hij : i = j
    · subst hij; exact hi hLj
    · rcases Op.apart i j d e (by omega) hd he with hb | ⟨_, h2⟩
      · exact hi (hL j e he hLj i hlt hb)
      · exact h2 t hdst ht
  · intro hji
    rcases Op.apart j i e d hji he hd with hb | ⟨h1, _⟩
    · exact hpre j hj hb
    · exact absurd ht (h1 t hdst)
theorem names_dst {c : CR} {t : Sl} (h : c.dst = some t) : t ∈ c.names := by
  obtain ⟨cd, op, g⟩ := c
  cases cd with
  | none => cases h
  | d s => cases h; exact List.mem_append_left _ (List.mem_singleton.mpr rfl)
theorem Inv.frame_next (I : Inv nt l S s E0 w0 L m F O E a w) (C : Chain call l S) (Op : Opn P nt ops l) {i : Nat} {d : DR} (hd : l[i]? = some d) (hi : ¬ L i) (hL : ∀ (j : Nat) (d : DR), l[j]? = some d → L j → ∀ i, i < l.length → bit d.pre i = true → L i)
    {v : AV} (hv : (S (i + 1)).f = putD d.cr.cd v (S i).f) :
    ∀ (t : Sl) (k : Nat), k ≤ l.length → (∀ (j : Nat) (e : DR), l[j]? = some e → e.cr.dst = some t → ((L j ∨ j = i) ↔ j < k)) → t.get (putD d.cr.cd v F) = t.get (S k).f := by
  intro t k hk hc
  have hlt : i < l.length := (List.getElem?_eq_some_iff.mp hd).1
  rw [putD_get]
  by_cases hdt : d.cr.dst = some t
  · rw [if_pos hdt]
    have hik : i < k := (hc i d hd hdt).mp (.inr rfl)
    have h1 : t.get (S (i + 1)).f = v := by rw [hv, putD_get, if_pos hdt]
    rw [← h1]
    refine (C.frame k hik hk (fun j e he h2 h3 hdst => ?_)).symm
    have hLj : L j := ((hc j e he hdst).mpr h3).resolve_right (by omega)
    rcases Op.apart i j d e (by omega) hd he with hb | ⟨h4, _⟩
    · exact hi (hL j e he hLj i hlt hb)
    · exact h4 t hdt (names_dst hdst)
  · rw [if_neg hdt]
    refine I.fr t k hk (fun j e he hdst => ?_)
    have hji : j ≠ i := fun h => by subst h; rw [hd] at he; cases he; exact hdt hdst
    constructor
    · intro h; exact (hc j e he hdst).mp (.inl h)
    · intro h; exact ((hc j e he hdst).mpr h).resolve_right hji
theorem Chain.name_inj (C : Chain call l S) {i j : Nat} (hi : i ≤ l.length) (hj : j ≤ l.length) (h : (S i).b = (S j).b) : i = j := by
  have h1 := C.name i hi
  have h2 := C.name j hj
  rw [h] at h1; omega
theorem Inv.next (I : Inv nt l S s E0 w0 L m F O E a w) (C : Chain call l S) (Op : Opn P nt ops l) {i : Nat} {d : DR} {o : Oper} (ho : ops[i]? = some o) (hd : l[i]? = some d) (hi : ¬ L i) (hL : ∀ (j : Nat) (d : DR), l[j]? = some d → L j → ∀ i, i < l.length → bit d.pre i = true → L i)
    (hdst : DstOk nt o.dst d.cr.cd) (hnm : ¬ isMut d (S i)) {v : AV} (hv : (S (i + 1)).f = putD d.cr.cd v (S i).f) {E' : Env} {w' : World} {O' : Id → AO} {u : Value} (hru : RV E' w' v u) (hrh : RelH O' E' w') {n1 n2 : Nat} (hext : ExtH n1 n2 O E w O' E' w')
    (hD : ∀ b, E'.D b → E.D b ∨ (isNew d (S i) ∧ b = (S i).b)) (hO : (¬ isNew d (S i) ∧ O' = O) ∨ (isNew d (S i) ∧ made d (S i) ≠ .dead ∧ (S i).b.get (S m).h = .dead ∧ O' (S i).b = made d (S i) ∧ ∀ b, b ≠ (S i).b → O' b = O b)) (hb0 : (S 0).b = s.n) :
    Inv nt l S s E0 w0 (fun j => L j ∨ j = i) m (putD d.cr.cd v F) O' E' (a.put o.dst u) w' := by
  have hlt : i < l.length := (List.getElem?_eq_some_iff.mp hd).1
  have hle := hext.le I.rh
  have hname := C.name i (by omega)
  rw [hb0] at hname
  refine ⟨I.m_le, ?_, (I.rf.mono hle).put hdst hru, I.frame_next C Op hd hi hL hv, hrh, ?_, ?_, ?_, I.nn, ?_⟩
  · intro j e he hm
    have hji : j ≠ i := fun h => by subst h; rw [hd] at he; cases he; exact hnm hm
    rw [← I.cut j e he hm]
    exact ⟨fun h => h.resolve_right hji, .inl⟩
  · intro j e hj hp
    rcases hO with ⟨hnn, rfl⟩ | ⟨hnew, hne, hdead, hOi, hOo⟩
    · have hji : j ≠ i := fun h => by subst h; have := hp.1; rw [hd] at this; cases this; exact hnn hp.2.1
      exact I.pend j e (hj.resolve_right hji) hp
    · by_cases hji : j = i
      · subst hji
        have := hp.1; rw [hd] at this; cases this
        exact ⟨hOi, hdead, hne⟩
      · obtain ⟨g1, g2, g3⟩ := I.pend j e (hj.resolve_right hji) hp
        refine ⟨?_, g2, g3⟩
        rw [hOo _ (fun h => hji (C.name_inj (by have := (List.getElem?_eq_some_iff.mp hp.1).1; omega) (by omega) h))]; exact g1
  · intro b hb
    rcases hO with ⟨hnn, rfl⟩ | ⟨hnew, hne, hdead, hOi, hOo⟩
    · exact I.rest b (fun j e hj hp => hb j e (.inl hj) hp)
    · have hbi : b ≠ (S i).b := hb i d (.inr rfl) ⟨hd, hnew, fun j e he hm h1 h2 => by
        cases hbit : bit e.pre i with
        | false => rfl
        | true => exact absurd (hL j e he ((I.cut j e he hm).mpr h2) i hlt hbit) hi⟩
      rw [hOo b hbi]; exact I.rest b (fun j e hj hp => hb j e (.inl hj) hp)
  · intro b hb
    rcases hD b hb with h | ⟨hnew, rfl⟩
    · rcases I.ids b h with h1 | ⟨j, e, h1, h2, h3, h4⟩ | h1
      · exact .inl h1
      · exact .inr (.inl ⟨j, e, h1, h2, .inl h3, h4⟩)
      · exact .inr (.inr h1)
    · exact .inr (.inl ⟨i, d, hd, hnew, .inr rfl, rfl⟩)
  · have := I.nn
    have hext' : ExtH s.n.val (S m).n.val O E w O' E' w' := { hext with ids := fun b hb => (hD b hb).imp id (fun ⟨_, h⟩ => by rw [h]; omega) }
    exact I.ext.trans hext' (Nat.le_refl _) (Nat.le_refl _)
end
end Go.Vm
namespace Go.Vm
set_option linter.unusedVariables false
variable {P : Program}
section
variable {call : CallT} {nt : Nat} {ops : Array Oper} {l : List DR} {S : Nat → DS} {s : St} {E0 E : Env} {w0 w : World} {L : Nat → Prop} {m : Nat} {F : Fr AV} {O : Id → AO} {a : Act}
theorem first_mut (S : Nat → DS) (l : List DR) (j : Nat) : ∀ k, (∀ i (d : DR), l[i]? = some d → j ≤ i → i < k → ¬ isMut d (S i)) ∨ ∃ i d, l[i]? = some d ∧ j ≤ i ∧ i < k ∧ isMut d (S i) ∧ ∀ i' (d' : DR), l[i']? = some d' → j ≤ i' → i' < i → ¬ isMut d' (S i') := by
  intro k
  induction k with
  | zero => exact .inl (fun i d _ _ h => by omega)
  | succ k ih =>
    rcases ih with ih | ⟨i, d, h1, h2, h3, h4, h5⟩
    · by_cases hm : ∃ d, l[k]? = some d ∧ j ≤ k ∧ isMut d (S k)
      · obtain ⟨d, h1, h2, h3⟩ := hm
        exact .inr ⟨k, d, h1, h2, by omega, h3, ih⟩
      · refine .inl (fun i d hd h1 h2 h3 => ?_)
        by_cases hik : i = k
        · subst hik; exact hm ⟨d, hd, h1, h3⟩
        · exact ih i d hd h1 (by omega) h3
    · exact .inr ⟨i, d, h1, h2, by omega, h4, h5⟩
theorem last_mut (S : Nat → DS) (l : List DR) (j : Nat) : ∀ k, (∀ i (d : DR), l[i]? = some d → j ≤ i → i < k → ¬ isMut d (S i)) ∨ ∃ i d, l[i]? = some d ∧ j ≤ i ∧ i < k ∧ isMut d (S i) ∧ ∀ i' (d' : DR), l[i']? = some d' → i < i' → i' < k → ¬ isMut d' (S i') := by
  intro k
  induction k with
  | zero => exact .inl (fun i d _ _ h => by omega)
  | succ k ih =>
    by_cases hm : ∃ d, l[k]? = some d ∧ j ≤ k ∧ isMut d (S k)
    · obtain ⟨d, h1, h2, h3⟩ := hm
      exact .inr ⟨k, d, h1, h2, by omega, h3, fun i' d' _ h4 h5 => by omega⟩
    · rcases ih with ih | ⟨i, d, h1, h2, h3, h4, h5⟩
      · refine .inl (fun i d hd h1 h2 h3 => ?_)
        by_cases hik : i = k
        · subst hik; exact hm ⟨d, hd, h1, h3⟩
        · exact ih i d hd h1 (by omega) h3
      · refine .inr ⟨i, d, h1, h2, by omega, h4, fun i' d' hd' h6 h7 h8 => ?_⟩
        by_cases hik : i' = k
        · subst hik; exact hm ⟨d', hd', by omega, h8⟩
        · exact h5 i' d' hd' h6 (by omega) h8
theorem Inv.part (I : Inv nt l S s E0 w0 L m F O E a w) (n : Id) : ∀ b, (St.mk (S m).h n).obj b = .dead ∨ (St.mk (S m).h n).obj b = O b := by
  intro b
  show b.get (S m).h = .dead ∨ b.get (S m).h = O b
  by_cases hp : ∃ i d, L i ∧ Pending l S m i d ∧ b = (S i).b
  · obtain ⟨i, d, h1, h2, rfl⟩ := hp
    exact .inl (I.pend i d h1 h2).2.1
  · exact .inr (I.rest b (fun i d h1 h2 h3 => hp ⟨i, d, h1, h2, h3⟩)).symm
theorem Inv.pends (I : Inv nt l S s E0 w0 L m F O E a w) (C : Chain call l S) {i : Nat} {d : DR} (hlt : i ≤ l.length) (hpre : ∀ j, j < l.length → bit d.pre j = true → L j) (hp : ∀ j e, j < i → Pending l S i j e → Pending l S m j e) (n : Id) :
    ∀ b, (St.mk (flush ((S i).ps.filter fun p => bit d.pre p.i) (.rep .dead)) n).obj b = .dead ∨ (St.mk (flush ((S i).ps.filter fun p => bit d.pre p.i) (.rep .dead)) n).obj b = O b := by
  intro b
  show b.get (flush _ _) = .dead ∨ b.get (flush _ _) = O b
  rcases flush_get ((S i).ps.filter fun p => bit d.pre p.i) (.rep .dead) b with ⟨p, hpp, h1, h2⟩ | ⟨_, h2⟩
  · rw [List.mem_filter] at hpp
    obtain ⟨j, e, h3, h4, h5⟩ := (C.pend i hlt p).mp hpp.1
    have hb : bit d.pre j = true := by have := hpp.2; rwa [h5] at this
    have := (I.pend j e (hpre j (by omega) hb) (hp j e h3 h4)).1
    rw [h5] at h1 h2
    right
    rw [h2, ← h1]; exact this.symm
  · left; rw [h2]; exact Id.get_rep b _
theorem Inv.reads (I : Inv nt l S s E0 w0 L m F O E a w) (C : Chain call l S) {i : Nat} {d : DR} (hd : l[i]? = some d) (hi : ¬ L i) (hL : ∀ (j : Nat) (d : DR), l[j]? = some d → L j → ∀ i, i < l.length → bit d.pre i = true → L i)
    (hpre : ∀ j, j < l.length → bit d.pre j = true → L j) (hk : d.kind = .read) (hw : d.want (S i) = true) {v : AV} (hv : (S (i + 1)).f = putD d.cr.cd v (S i).f) (hs : KStep call d (S i) (S (i + 1)) v d.kind) :
    ∃ (t : St) (s1 : St), (∀ b, t.obj b = .dead ∨ t.obj b = O b) ∧ exop d.cr.cop noCall (S i).f t = .ok v s1 := by
  rw [hk] at hs
  have hs' := hs
  obtain ⟨hx, _⟩ := hs
  have hlt : i < l.length := (List.getElem?_eq_some_iff.mp hd).1
  by_cases hmi : m ≤ i
  · rcases hx with ⟨hx, hws⟩ | ⟨s1, hx⟩
    · rcases first_mut S l m i with hn | ⟨j, e, he, h1, h2, h3, h4⟩
      · have := (C.heap i hmi (by omega) hn).1
        rw [this] at hx
        obtain ⟨s1, hx⟩ := hx
        exact ⟨_, s1, I.part _, hx⟩
      · have hh := (C.heap j h1 (by omega) h4).1
        have hnb : bit d.pre j = false := by
          cases hb : bit d.pre j with
          | false => rfl
          | true => have := (I.cut j e he h3).mp (hpre j (by omega) hb); omega
        have := writesOk_mem hws (C.wrote he h3 h2 (by omega)) hnb
        obtain ⟨s1, hx2⟩ := again_ok this
        dsimp only at hx2
        rw [hh] at hx2
        exact ⟨_, s1, I.part _, hx2⟩
    · exact ⟨_, s1, I.pends C (by omega) hpre (fun j e _ hp => ⟨hp.1, hp.2.1, fun k q hq hqm h1 h2 => hp.2.2 k q hq hqm h1 (by omega)⟩) _, hx⟩
  · rcases last_mut S l i m with hn | ⟨j, e, he, h1, h2, h3, h4⟩
    · rcases hx with ⟨hx, hws⟩ | ⟨s1, hx⟩
      · have := (C.heap m (by omega) I.m_le hn).1
        rw [← this] at hx
        obtain ⟨s1, hx⟩ := hx
        exact ⟨_, s1, I.part _, hx⟩
      · refine ⟨_, s1, I.pends C (by omega) hpre (fun j e _ hp => ⟨hp.1, hp.2.1, fun k q hq hqm h1 h2 => ?_⟩) _, hx⟩
        by_cases hki : k < i
        · exact hp.2.2 k q hq hqm h1 hki
        · exact absurd hqm (hn k q hq (by omega) h2)
    · have hjl : j < l.length := (List.getElem?_eq_some_iff.mp he).1
      have hij : i ≠ j := fun h => by subst h; rw [hd] at he; cases he; rw [h3.1] at hk; cases hk
      have hh := (C.heap m h2 I.m_le (fun i' d' hd' h5 h6 => h4 i' d' hd' (by omega) h6)).1
      have hnb : bit e.pre i = false := by
        cases hb : bit e.pre i with
        | false => rfl
        | true => exact absurd (hL j e he ((I.cut j e he h3).mpr h2) i hlt hb) hi
      have hrd := C.read (k := j) hd hk hw hv hs' (by omega) (by omega)
      have hst := C.step j e he
      rcases hst.2 with ⟨hw', _⟩ | ⟨_, v', _, hkk⟩
      · rw [h3.2] at hw'; cases hw'
      · rw [h3.1] at hkk
        obtain ⟨_, _, hro, _⟩ := hkk
        obtain ⟨s1, hx2⟩ := again_ok (readsOk_mem hro hrd hnb)
        dsimp only at hx2
        rw [← hh] at hx2
        exact ⟨_, s1, I.part _, hx2⟩
theorem empty_obj (b : Id) : St.empty.obj b = .dead := Id.get_rep b _
theorem rep_obj (b c : Id) : (St.mk (.rep .dead) c).obj b = .dead := Id.get_rep b _
theorem out_wp {o : Oper} {v : Value} {w' : World} {K : Act → World → Prop} {Q : Exit → Act → World → Prop} (h : (execOp a.eval o).run P w = .ok (.value v) w' ∨ ((execOp a.eval o).run P w = .ok .skip w' ∧ v = Go.undef)) (hk : K (a.put o.dst v) w') : o.wp P a w K Q := by
  unfold Oper.wp
  rcases h with h | ⟨h, rfl⟩ <;> rw [h] <;> exact hk
theorem names_guard {c : CR} {t : Sl} {b : Bool} (h : c.guard = .g t b) : t ∈ c.names := by
  obtain ⟨cd, op, g⟩ := c
  have h' : g = .g t b := h
  subst h'
  exact List.mem_append_right _ (List.mem_append_left _ (List.mem_singleton.mpr rfl))
theorem names_slots {c : CR} {t : Sl} (h : t ∈ c.cop.slots) : t ∈ c.names := by
  obtain ⟨cd, op, g⟩ := c
  exact List.mem_append_right _ (List.mem_append_right _ h)
theorem Inv.step_still [Lay] (I : Inv nt l S s E0 w0 L m F O E a w) (C : Chain call l S) (Op : Opn P nt ops l) {i : Nat} {d : DR} {o : Oper} (ho : ops[i]? = some o) (hd : l[i]? = some d) (hi : ¬ L i) (hL : ∀ (j : Nat) (d : DR), l[j]? = some d → L j → ∀ i, i < l.length → bit d.pre i = true → L i)
    (hpre : ∀ j, j < l.length → bit d.pre j = true → L j) (hb0 : (S 0).b = s.n) (rel0 : Rel s E0 w0) (hnm : ¬ isMut d (S i)) {K : Act → World → Prop} {Q : Exit → Act → World → Prop}
    (hK : ∀ m' F' O' E' a' w', Inv nt l S s E0 w0 (fun j => L j ∨ j = i) m' F' O' E' a' w' → K a' w') : if Region.wanted o (yielded ops a.tmps) = true then o.wp P a w K Q else K (a.put o.dst Go.undef) w := by
  obtain ⟨o', ho', hdi, hdst, hcop, hcg, hkind⟩ := Op.op i d hd
  rw [ho] at ho'; cases ho'
  have hlt : i < l.length := (List.getElem?_eq_some_iff.mp hd).1
  have hname := C.name i (by omega)
  rw [hb0] at hname
  have hnames := I.names Op hL hd hi hpre
  have hgn : wanted d.cr.guard F = wanted d.cr.guard (S i).f := wanted_congr (fun t ⟨b, hb⟩ => hnames t (names_guard hb))
  have hslots : ∀ t ∈ d.cr.cop.slots, t.get F = t.get (S i).f := fun t ht => hnames t (names_slots ht)
  have hwe : Region.wanted o (yielded ops a.tmps) = d.want (S i) := (wanted_eq hcg I.rf).trans hgn
  have hs := C.step i d hd
  rcases hs.2 with ⟨hw, hv, _⟩ | ⟨hw, v, hv, hkk⟩
  · rw [hwe, hw, if_neg (by simp)]
    exact hK _ _ _ _ _ _ (I.next C Op ho hd hi hL hdst hnm hv (RV.undef E w) I.rh (n1 := 0) (n2 := 0) .refl (fun b hb => .inl hb) (.inl ⟨(fun h => by rw [h.2] at hw; cases hw), rfl⟩) hb0)
  · rw [hwe, hw, if_pos rfl]
    cases hq : d.kind with
    | quiet =>
      rw [hq] at hkk
      obtain ⟨⟨s1, hx⟩, _⟩ := hkk
      rw [← exop_congr hslots] at hx
      have hg := exop_good (call := noCall) hcop I.rf (I.rh.kill (fun b => .inl (empty_obj b))) hx
      rw [← hkind, hq] at hg
      obtain ⟨rfl, hg⟩ := hg
      obtain ⟨E', w', u, h1, h2, h3, h4⟩ := hg 0 0
      obtain ⟨g1, g2, _⟩ := merge (o' := O) I.rh (fun b => .inl (empty_obj b)) h2 h4 (fun _ _ _ => rfl) (fun b hb => by rcases hb with hb | hb <;> first | exact absurd (empty_obj b) hb | rw [hb, empty_obj])
      exact out_wp h1 (hK _ _ _ _ _ _ (I.next C Op ho hd hi hL hdst hnm hv h3 g1 g2 (fun b hb => .inl ((h4.ids b hb).resolve_right (by omega))) (.inl ⟨(fun h => by rw [h.1] at hq; cases hq), rfl⟩) hb0))
    | read =>
      obtain ⟨t, s1, hpart, hx⟩ := I.reads C hd hi hL hpre hq hw hv hkk
      rw [← exop_congr hslots] at hx
      have hg := exop_good (call := noCall) hcop I.rf (I.rh.kill hpart) hx
      rw [← hkind, hq] at hg
      obtain ⟨rfl, hg⟩ := hg
      obtain ⟨E', w', u, h1, h2, h3, h4⟩ := hg 0 0
      obtain ⟨g1, g2, _⟩ := merge (o' := O) I.rh hpart h2 h4 (fun _ _ _ => rfl) (fun b hb => by
        rcases hb with hb | hb
        · rcases hpart b with h | h
          · rw [hb, h]
          · exact h.symm
        · exact ((hpart b).resolve_left hb).symm)
      exact out_wp h1 (hK _ _ _ _ _ _ (I.next C Op ho hd hi hL hdst hnm hv h3 g1 g2 (fun b hb => .inl ((h4.ids b hb).resolve_right (by omega))) (.inl ⟨(fun h => by rw [h.1] at hq; cases hq), rfl⟩) hb0))
    | alloc =>
      have hnew : isNew d (S i) := ⟨hq, hw⟩
      rw [hq] at hkk
      obtain ⟨⟨s1, hx⟩, _⟩ := hkk
      have hmade : made d (S i) = (S i).b.get s1.h := by unfold made; rw [hx]; rfl
      rw [← exop_congr hslots] at hx
      obtain ⟨q1, q2⟩ := alloc_one (by rw [← hkind]; exact hq) hx
      have hg := exop_good (call := noCall) hcop I.rf (I.rh.kill (fun b => .inl (rep_obj b _))) hx
      rw [← hkind, hq] at hg
      have hfresh : ¬ E.D (S i).b := by
        intro hD
        rcases I.ids _ hD with h | ⟨j, e, h1, h2, h3, h4⟩ | h
        · exact rel0.n _ (by rw [hname]; omega) h
        · have := C.name_inj (by omega) (by have := (List.getElem?_eq_some_iff.mp h1).1; omega) h4
          subst this; exact hi h3
        · omega
      obtain ⟨_, hg⟩ := hg hfresh
      obtain ⟨E', w', u, h1, h2, h3, h4⟩ := hg
      have hOd : O (S i).b = .dead := by
        by_cases h : O (S i).b = .dead
        · exact h
        · exact absurd (I.rh.old _ h) hfresh
      have hbn : (St.mk (.rep .dead) (S i).b).n = (S i).b := rfl
      rw [hbn] at q1 q2 h4
      have hO' : s1.obj (S i).b = made d (S i) := by rw [hmade]; cases s1; rfl
      obtain ⟨g1, g2, _⟩ := merge (o' := fun b => if b = (S i).b then made d (S i) else O b) I.rh (fun b => .inl (rep_obj b _)) h2 h4 (fun b hb _ => by
          show (if b = (S i).b then made d (S i) else O b) = O b
          rw [if_neg (fun h => hb (by rw [h]; exact hOd))]) (fun b hb => by
          show (if b = (S i).b then made d (S i) else O b) = s1.obj b
          by_cases hbb : b = (S i).b
          · rw [if_pos hbb, hbb, hO']
          · rw [if_neg hbb, q2 b hbb, rep_obj]
            exact hb.resolve_right (fun h => h (rep_obj b _)))
      have hSm : (S i).b.get (S m).h = .dead := by
        rw [← I.rest (S i).b (fun j e hj hp h => hi (by
          have := C.name_inj (by omega) (by have := (List.getElem?_eq_some_iff.mp hp.1).1; omega) h
          rw [this]; exact hj))]
        exact hOd
      refine out_wp h1 (hK _ _ _ _ _ _ (I.next C Op ho hd hi hL hdst hnm hv h3 g1 g2 (fun b hb => ?_) (.inr ⟨hnew, by rw [← hO']; exact q1, hSm, by simp, fun b hb => by simp [hb]⟩) hb0))
      rcases h4.ids b hb with h | h
      · exact .inl h
      · exact .inr ⟨hnew, Id.val_inj (by omega)⟩
    | «mut» => exact absurd ⟨hq, hw⟩ hnm
end
end Go.Vm
namespace Go.Vm
set_option linter.unusedVariables false
variable {P : Program}
section
variable {call : CallT} {nt : Nat} {ops : Array Oper} {l : List DR} {S : Nat → DS} {s : St} {E0 E : Env} {w0 w : World} {L : Nat → Prop} {m : Nat} {F : Fr AV} {O : Id → AO} {a : Act}
theorem Inv.step_mut [Lay] (hsc : SoundCall P call) (I : Inv nt l S s E0 w0 L m F O E a w) (C : Chain call l S) (Op : Opn P nt ops l) {i : Nat} {d : DR} {o : Oper} (ho : ops[i]? = some o) (hd : l[i]? = some d) (hi : ¬ L i) (hL : ∀ (j : Nat) (d : DR), l[j]? = some d → L j → ∀ i, i < l.length → bit d.pre i = true → L i)
    (hpre : ∀ j, j < l.length → bit d.pre j = true → L j ∧ j < i) (hb0 : (S 0).b = s.n) (rel0 : Rel s E0 w0) (hm : isMut d (S i)) {K : Act → World → Prop} {Q : Exit → Act → World → Prop}
    (hK : ∀ m' F' O' E' a' w', Inv nt l S s E0 w0 (fun j => L j ∨ j = i) m' F' O' E' a' w' → K a' w') : if Region.wanted o (yielded ops a.tmps) = true then o.wp P a w K Q else K (a.put o.dst Go.undef) w := by
  obtain ⟨o', ho', hdi, hdst, hcop, hcg, hkind⟩ := Op.op i d hd
  rw [ho] at ho'; cases ho'
  have hlt : i < l.length := (List.getElem?_eq_some_iff.mp hd).1
  have hname := C.name i (by omega)
  rw [hb0] at hname
  have hnames := I.names Op hL hd hi (fun j h1 h2 => (hpre j h1 h2).1)
  have hgn : wanted d.cr.guard F = wanted d.cr.guard (S i).f := wanted_congr (fun t ⟨b, hb⟩ => hnames t (names_guard hb))
  have hslots : ∀ t ∈ d.cr.cop.slots, t.get F = t.get (S i).f := fun t ht => hnames t (names_slots ht)
  have hwe : Region.wanted o (yielded ops a.tmps) = d.want (S i) := (wanted_eq hcg I.rf).trans hgn
  have hs := C.step i d hd
  rcases hs.2 with ⟨hw, _⟩ | ⟨hw, v, hv, hkk⟩
  · rw [hm.2] at hw; cases hw
  rw [hm.1] at hkk
  obtain ⟨hall, hx, _, hps, _⟩ := hkk
  rw [hwe, hw, if_pos rfl]
  -- the writes done so far are those ahead of it
  have hmi : m ≤ i := by
    apply Decidable.byContradiction
    intro h
    exact hi ((I.cut i d hd hm).mpr (by omega))
  have hnone : ∀ j (e : DR), l[j]? = some e → m ≤ j → j < i → ¬ isMut e (S j) := by
    intro j e he h1 h2 h3
    have hmem := C.wrote he h3 h2 (by omega)
    have hb := allPre_mem hall (List.mem_map_of_mem (f := fun x : Wr => x.i) hmem)
    have hjl : j < l.length := (List.getElem?_eq_some_iff.mp he).1
    have := (I.cut j e he h3).mp (hpre j hjl hb).1
    omega
  obtain ⟨hh, hn⟩ := C.heap i hmi (by omega) hnone
  -- what it is told of
  let st : St := .mk (flush ((S i).ps.filter fun p => bit d.pre p.i) (S i).h) (S i).n
  have hst : ∀ b, st.obj b = b.get (flush ((S i).ps.filter fun p => bit d.pre p.i) (S i).h) := fun b => rfl
  have hpend : ∀ (j : Nat) (e : DR), j < i → Pending l S i j e → Pending l S m j e := fun j e _ hp => ⟨hp.1, hp.2.1, fun k q hq hqm h1 h2 => hp.2.2 k q hq hqm h1 (by omega)⟩
  have hback : ∀ (j : Nat) (e : DR), Pending l S m j e → Pending l S i j e := fun j e hp => ⟨hp.1, hp.2.1, fun k q hq hqm h1 h2 => by
    by_cases hk : k < m
    · exact hp.2.2 k q hq hqm h1 hk
    · exact absurd hqm (hnone k q hq (by omega) h2)⟩
  have hpart : ∀ b, st.obj b = .dead ∨ st.obj b = O b := by
    intro b
    rw [hst]
    rcases flush_get ((S i).ps.filter fun p => bit d.pre p.i) (S i).h b with ⟨p, hp, h1, h2⟩ | ⟨h1, h2⟩
    · rw [List.mem_filter] at hp
      obtain ⟨j, e, h3, h4, h5⟩ := (C.pend i (by omega) p).mp hp.1
      have hb : bit d.pre j = true := by have := hp.2; rwa [h5] at this
      have hLj := (hpre j (by omega) hb).1
      have := (I.pend j e hLj (hpend j e h3 h4)).1
      rw [h5] at h1 h2
      right
      rw [h2, ← h1]; exact this.symm
    · rw [h2, hh]
      exact I.part (S i).n b
  have relst : Rel st E w := by
    refine ⟨fun b hb hD => ?_, I.rh.kill hpart, rel0.laid.le (I.ext.le rel0.h)⟩
    have hb' : (S i).n.val ≤ b.val := hb
    rw [hn] at hb'
    have := I.nn
    rcases I.ids b hD with h | ⟨j, e, h1, h2, h3, h4⟩ | h
    · exact rel0.n b (by omega) h
    · have h5 := C.name j (by have := (List.getElem?_eq_some_iff.mp h1).1; omega)
      rw [hb0] at h5
      have := (List.getElem?_eq_some_iff.mp h1).1
      rw [h4] at hb'; omega
    · omega
  rw [← exop_congr hslots] at hx
  have hg := exop_good (call := call) hcop I.rf relst.h hx
  rw [← hkind, hm.1] at hg
  have hout := hg relst hsc
  classical
  refine hout.2 K Q (fun E' w' u hrel hrv hext => hK (i + 1) (putD d.cr.cd v F) (fun b => if O b ≠ .dead ∧ st.obj b = .dead then O b else (St.mk (S (i + 1)).h (S (i + 1)).n).obj b) E' (a.put o.dst u) w' ?_)
  have hnn : (S i).n.val ≤ (S (i + 1)).n.val := hout.1
  have hobj : ∀ b, (St.mk (S (i + 1)).h (S (i + 1)).n).obj b = b.get (S (i + 1)).h := fun b => rfl
  obtain ⟨g1, g2, g3⟩ := merge (o' := fun b => if O b ≠ .dead ∧ st.obj b = .dead then O b else (St.mk (S (i + 1)).h (S (i + 1)).n).obj b) I.rh hpart hrel.h hext (fun b h1 h2 => by
    show (if O b ≠ .dead ∧ st.obj b = .dead then _ else _) = _
    rw [if_pos ⟨h1, h2⟩]) (fun b hb => by
    show (if O b ≠ .dead ∧ st.obj b = .dead then _ else _) = _
    rw [if_neg (fun h => hb.elim h.1 (fun h2 => h2 h.2))])
  have hle := g2.le I.rh
  refine ⟨by omega, ?_, (I.rf.mono hle).put hdst hrv, I.frame_next C Op hd hi hL hv, g1, ?_, ?_, ?_, ?_, ?_⟩
  · intro j e he hme
    by_cases hji : j = i
    · subst hji; exact ⟨fun _ => by omega, fun _ => .inr rfl⟩
    · constructor
      · intro h
        have := (I.cut j e he hme).mp (h.resolve_right hji)
        omega
      · intro h
        refine .inl ((I.cut j e he hme).mpr ?_)
        apply Decidable.byContradiction
        intro h2
        exact hnone j e he (by omega) (by omega) hme
  · intro j e hj hp
    have hji : j ≠ i := fun h => by subst h; have := hp.1; rw [hd] at this; cases this; have := hp.2.1.1; rw [hm.1] at this; cases this
    have hLj := hj.resolve_right hji
    have hpm : Pending l S m j e := ⟨hp.1, hp.2.1, fun k q hq hqm h1 h2 => hp.2.2 k q hq hqm h1 (by omega)⟩
    obtain ⟨k1, k2, k3⟩ := I.pend j e hLj hpm
    have hjl : j < l.length := (List.getElem?_eq_some_iff.mp hp.1).1
    have hdead : st.obj (S j).b = .dead := by
      rw [hst]
      rcases flush_get ((S i).ps.filter fun p => bit d.pre p.i) (S i).h (S j).b with ⟨p, hpp, h1, h2⟩ | ⟨h1, h2⟩
      · exfalso
        rw [List.mem_filter] at hpp
        obtain ⟨j', e', h3, h4, h5⟩ := (C.pend i (by omega) p).mp hpp.1
        rw [h5] at h1
        have hjj := C.name_inj (by omega) (by omega) h1
        have hb : bit d.pre j' = true := by have := hpp.2; rwa [h5] at this
        rw [hjj] at hb
        have := hp.2.2 i d hd hm (hpre j hjl hb).2 (by omega)
        rw [hb] at this; cases this
      · rw [h2, hh]; exact k2
    have hne : O (S j).b ≠ .dead := by rw [k1]; exact k3
    refine ⟨?_, ?_, k3⟩
    · show (if O (S j).b ≠ .dead ∧ st.obj (S j).b = .dead then _ else _) = _
      rw [if_pos ⟨hne, hdead⟩]; exact k1
    · exact g3 _ hne hdead
  · intro b hb
    show (if O b ≠ .dead ∧ st.obj b = .dead then _ else _) = _
    refine if_neg ?_
    rintro ⟨h1, h2⟩
    by_cases hp : ∃ j e, L j ∧ Pending l S m j e ∧ b = (S j).b
    · obtain ⟨j, e, hLj, hpm, rfl⟩ := hp
      have hjl : j < l.length := (List.getElem?_eq_some_iff.mp hpm.1).1
      obtain ⟨k1, k2, k3⟩ := I.pend j e hLj hpm
      -- it is flushed by this write
      by_cases hb2 : bit d.pre j = true
      · have hjlt := (hpre j hjl hb2).2
        have hmem : (⟨j, (S j).b, made e (S j)⟩ : Pd) ∈ (S i).ps.filter fun p => bit d.pre p.i := by
          rw [List.mem_filter]
          exact ⟨(C.pend i (by omega) _).mpr ⟨j, e, hjlt, hback j e hpm, rfl⟩, hb2⟩
        rw [hst] at h2
        rcases flush_get ((S i).ps.filter fun p => bit d.pre p.i) (S i).h (S j).b with ⟨p, hpp, q1, q2⟩ | ⟨q1, _⟩
        · rw [List.mem_filter] at hpp
          obtain ⟨j', e', h3, h4, h5⟩ := (C.pend i (by omega) p).mp hpp.1
          rw [h5] at q1 q2
          have hjj := C.name_inj (by omega) (by omega) q1
          subst hjj
          have he : e' = e := by have := h4.1; rw [hpm.1] at this; exact (Option.some.inj this).symm
          subst he
          rw [q2] at h2
          exact k3 h2
        · exact q1 _ hmem rfl
      · refine hb j e (.inl hLj) ⟨hpm.1, hpm.2.1, fun k q hq hqm h3 h4 => ?_⟩ rfl
        by_cases hki : k = i
        · subst hki; rw [hd] at hq; cases hq
          cases hbb : bit d.pre j with
          | false => rfl
          | true => exact absurd hbb hb2
        · exact (hback j e hpm).2.2 k q hq hqm h3 (by omega)
    · have hO := I.rest b (fun j e h3 h4 h5 => hp ⟨j, e, h3, h4, h5⟩)
      rw [hst] at h2
      rcases flush_get ((S i).ps.filter fun p => bit d.pre p.i) (S i).h b with ⟨p, hpp, q1, q2⟩ | ⟨_, q2⟩
      · rw [List.mem_filter] at hpp
        obtain ⟨j', e', h3, h4, h5⟩ := (C.pend i (by omega) p).mp hpp.1
        have hb2 : bit d.pre j' = true := by have := hpp.2; rwa [h5] at this
        rw [h5] at q1
        exact hp ⟨j', e', (hpre j' (by omega) hb2).1, hpend j' e' h3 h4, q1.symm⟩
      · rw [q2, hh, ← hO] at h2; exact h1 h2
  · intro b hb
    rcases hext.ids b hb with h | h
    · rcases I.ids b h with h1 | ⟨j, e, h1, h2, h3, h4⟩ | h1
      · exact .inl h1
      · exact .inr (.inl ⟨j, e, h1, h2, .inl h3, h4⟩)
      · refine .inr (.inr ⟨h1.1, ?_⟩)
        rw [hn] at hnn; omega
    · have h' : (S i).n.val ≤ b.val ∧ b.val < (S (i + 1)).n.val := h
      have := I.nn
      rw [hn] at h'
      exact .inr (.inr ⟨by omega, h'.2⟩)
  · have := I.nn; rw [hn] at hnn; omega
  · have := I.nn
    have hb2 : ExtH (S i).n.val (S (i + 1)).n.val O E w _ E' w' := g2
    rw [hn] at hb2 hnn
    exact I.ext.trans hb2 (by omega) hnn
end
end Go.Vm
namespace Go.Vm
set_option linter.unusedVariables false
variable {P : Program}
theorem ups_ok : ∀ (m : Nat) (n : Id) (k : Id → RC), ups m n k = .no ∨ ∃ n' : Id, n'.val = n.val + m ∧ ups m n k = k n' := by
  intro m
  induction m with
  | zero => intro n k; exact .inr ⟨n, rfl, rfl⟩
  | succ m ih =>
    intro n k
    have e : ups (m + 1) n k = n.up .no fun n => ups m n k := rfl
    rw [e]
    rcases Id.up_spec n RC.no (fun n => ups m n k) with h | ⟨y, hy, h⟩
    · exact .inl h
    · rw [h]
      rcases ih y k with h1 | ⟨n', h1, h2⟩
      · exact .inl h1
      · exact .inr ⟨n', by omega, h2⟩
section
variable {call : CallT} {nt : Nat} {ops : Array Oper} {l : List DR} {S : Nat → DS} {s : St} {E0 E : Env} {w0 w : World} {L : Nat → Prop} {m : Nat} {F : Fr AV} {O : Id → AO} {a : Act}
theorem Inv.all [Lay] (I : Inv nt l S s E0 w0 L m F O E a w) (C : Chain call l S) (rel0 : Rel s E0 w0) (hb0 : (S 0).b = s.n) (hL : ∀ j, j < l.length → L j) :
    CodePost nt s E0 w0 (.nor (S l.length).f (.mk (flush (S l.length).ps (S l.length).h) (S l.length).n)) .normal a w := by
  have hnone : ∀ j (e : DR), l[j]? = some e → m ≤ j → j < l.length → ¬ isMut e (S j) := fun j e he h1 h2 h3 => by
    have := (I.cut j e he h3).mp (hL j h2); omega
  obtain ⟨hh, hn⟩ := C.heap l.length I.m_le (Nat.le_refl _) hnone
  have hfwd : ∀ (j : Nat) (e : DR), Pending l S l.length j e → Pending l S m j e := fun j e hp => ⟨hp.1, hp.2.1, fun k q hq hqm h1 h2 => hp.2.2 k q hq hqm h1 (by have := I.m_le; omega)⟩
  have hbwd : ∀ (j : Nat) (e : DR), Pending l S m j e → Pending l S l.length j e := fun j e hp => ⟨hp.1, hp.2.1, fun k q hq hqm h1 h2 => hp.2.2 k q hq hqm h1 ((I.cut k q hq hqm).mp (hL k h2))⟩
  have hobj : (St.mk (flush (S l.length).ps (S l.length).h) (S l.length).n).obj = O := by
    funext b
    show b.get (flush (S l.length).ps (S l.length).h) = O b
    rcases flush_get (S l.length).ps (S l.length).h b with ⟨p, hp, h1, h2⟩ | ⟨h1, h2⟩
    · obtain ⟨j, e, h3, h4, h5⟩ := (C.pend l.length (Nat.le_refl _) p).mp hp
      rw [h5] at h1 h2
      rw [h2, ← h1]; exact (I.pend j e (hL j h3) (hfwd j e h4)).1.symm
    · rw [h2, hh]
      refine (I.rest b (fun j e hj hp hbe => ?_)).symm
      exact h1 _ ((C.pend l.length (Nat.le_refl _) _).mpr ⟨j, e, (List.getElem?_eq_some_iff.mp hp.1).1, hbwd j e hp, rfl⟩) hbe.symm
  refine ⟨_, _, E, rfl, ⟨fun t ht => ?_, I.rf.size, I.rf.defers⟩, ⟨⟨fun b hb hD => ?_, by rw [hobj]; exact I.rh, rel0.laid.le (I.ext.le rel0.h)⟩, ?_, ?_⟩⟩
  · rw [← I.fr (Sl.ofNat t) l.length (Nat.le_refl _) (fun j d hd _ => ⟨fun _ => (List.getElem?_eq_some_iff.mp hd).1, fun h => hL j h⟩)]
    exact I.rf.slot t ht
  · have hb' : (S l.length).n.val ≤ b.val := hb
    rw [hn] at hb'
    have := I.nn
    rcases I.ids b hD with h | ⟨j, e, h1, h2, h3, h4⟩ | h
    · exact rel0.n b (by omega) h
    · have h6 := (List.getElem?_eq_some_iff.mp h1).1
      have h5 := C.name j (by omega)
      rw [hb0] at h5
      rw [h4] at hb'; omega
    · omega
  · show s.n.val ≤ (S l.length).n.val
    rw [hn]; have := I.nn; omega
  · show ExtH s.n.val (S l.length).n.val s.obj E0 w0 _ E w
    rw [hobj, hn]; exact I.ext
def Lst (listed : Array Bool) (j : Nat) : Prop := listed.getD j false = true
theorem ready_mem {listed : Array Bool} {i : Nat} (h : i ∈ Region.ready .any ops listed) : i < ops.size ∧ listed.getD i true = false ∧ ∀ o, ops[i]? = some o → ∀ e ∈ o.after.toList, Region.binds .any e = true → Lst listed e.on := by
  unfold Region.ready at h
  rw [List.mem_filter, List.mem_range, Bool.and_eq_true] at h
  refine ⟨h.1, by simpa using h.2.1, fun o ho e he hb => ?_⟩
  have h2 := h.2.2
  rw [ho] at h2
  simp only [Option.map_some, Option.getD_some] at h2
  rw [Array.all_eq_true'] at h2
  have h3 := h2 e (Array.mem_toList_iff.mp he)
  rw [hb] at h3
  simpa [Lst] using h3
theorem ready_nil {nt : Nat} (Op : Opn P nt ops l) {listed : Array Bool} (hsz : listed.size = ops.size) (h : Region.ready .any ops listed = []) : ∀ n j, j ≤ n → j < ops.size → Lst listed j := by
  intro n
  induction n with
  | zero =>
    intro j hj hlt
    cases hq : listed.getD j false with
    | true => exact hq
    | false =>
      exfalso
      have : j ∈ Region.ready .any ops listed := by
        unfold Region.ready
        rw [List.mem_filter, List.mem_range, Bool.and_eq_true]
        refine ⟨hlt, ?_, ?_⟩
        · have : listed.getD j true = false := by simpa [Array.getD, hsz, hlt] using hq
          rw [this]; rfl
        · rw [Array.getElem?_eq_getElem hlt]
          simp only [Option.map_some, Option.getD_some]
          rw [Array.all_eq_true']
          intro e he
          cases hb : Region.binds .any e with
          | false => rfl
          | true =>
            have := Op.back j _ (Array.getElem?_eq_getElem hlt) e (Array.mem_toList_iff.mpr he) hb
            omega
      rw [h] at this; cases this
  | succ n ih =>
    intro j hj hlt
    cases hq : listed.getD j false with
    | true => exact hq
    | false =>
      exfalso
      have : j ∈ Region.ready .any ops listed := by
        unfold Region.ready
        rw [List.mem_filter, List.mem_range, Bool.and_eq_true]
        refine ⟨hlt, ?_, ?_⟩
        · have : listed.getD j true = false := by simpa [Array.getD, hsz, hlt] using hq
          rw [this]; rfl
        · rw [Array.getElem?_eq_getElem hlt]
          simp only [Option.map_some, Option.getD_some]
          rw [Array.all_eq_true']
          intro e he
          cases hb : Region.binds .any e with
          | false => rfl
          | true =>
            have h1 := Op.back j _ (Array.getElem?_eq_getElem hlt) e (Array.mem_toList_iff.mpr he) hb
            have h2 := ih e.on (by omega) (by omega)
            simpa [Lst] using h2
      rw [h] at this; cases this
end
end Go.Vm
namespace Go.Vm
set_option linter.unusedVariables false
variable {P : Program}
def unl (n : Nat) (listed : Array Bool) : List Nat := (List.range n).filter fun j => !listed.getD j false
theorem unl_set {n : Nat} {listed : Array Bool} {i : Nat} (hi : i < n) (hs : i < listed.size) (h : listed.getD i false = false) : (unl n (listed.setIfInBounds i true)).length < (unl n listed).length := by
  have e : unl n (listed.setIfInBounds i true) = (unl n listed).filter fun j => j != i := by
    unfold unl
    rw [List.filter_filter]
    apply List.filter_congr
    intro j _
    by_cases hj : j = i
    · subst hj; simp [Array.getD, hs]
    · have : (listed.setIfInBounds i true).getD j false = listed.getD j false := by
        simp [Array.getD_eq_getD_getElem?, Ne.symm hj]
      rw [this]; simp [hj]
  rw [e]
  refine List.length_filter_lt_length_iff_exists.mpr ⟨i, ?_, by simp⟩
  unfold unl
  rw [List.mem_filter, List.mem_range]
  exact ⟨hi, by rw [h]; rfl⟩
theorem lst_set {listed : Array Bool} {i : Nat} (hs : i < listed.size) (j : Nat) : Lst (listed.setIfInBounds i true) j ↔ Lst listed j ∨ j = i := by
  unfold Lst
  by_cases hj : j = i
  · subst hj; simp [Array.getD, hs]
  · have : (listed.setIfInBounds i true).getD j false = listed.getD j false := by
      simp [Array.getD_eq_getD_getElem?, Ne.symm hj]
    rw [this]; simp [hj]
section
variable {call : CallT} {nt : Nat} {ops : Array Oper} {l : List DR} {S : Nat → DS} {s : St} {E0 : Env} {w0 : World}
theorem Inv.lift {L L' : Nat → Prop} (h : ∀ j, L j ↔ L' j) {m : Nat} {F : Fr AV} {O : Id → AO} {E : Env} {a : Act} {w : World} (I : Inv nt l S s E0 w0 L m F O E a w) : Inv nt l S s E0 w0 L' m F O E a w := by
  have : L = L' := funext fun j => propext (h j)
  rw [← this]; exact I
theorem any_ok [Lay] (hsc : SoundCall P call) (C : Chain call l S) (Op : Opn P nt ops l) (hb0 : (S 0).b = s.n) (rel0 : Rel s E0 w0) {rc : RC} (hrc : rc = .nor (S l.length).f (.mk (flush (S l.length).ps (S l.length).h) (S l.length).n)) :
    ∀ (fuel : Nat) (listed : Array Bool) (a : Act) (w : World), listed.size = ops.size → (unl ops.size listed).length ≤ fuel → (∀ (j : Nat) (o : Oper), ops[j]? = some o → Lst listed j → ∀ e ∈ o.after.toList, Region.binds .any e = true → Lst listed e.on) →
      (∃ m F O E, Inv nt l S s E0 w0 (Lst listed) m F O E a w) → wpAny P .any ops (CodePost nt s E0 w0 rc) fuel listed a w := by
  intro fuel
  have fin : ∀ (listed : Array Bool) (a : Act) (w : World), listed.size = ops.size → (∃ m F O E, Inv nt l S s E0 w0 (Lst listed) m F O E a w) → Region.ready .any ops listed = [] → CodePost nt s E0 w0 rc .normal a w := by
    rintro listed a w hsz ⟨m, F, O, E, I⟩ hr
    rw [hrc]
    exact I.all C rel0 hb0 (fun j hj => ready_nil Op hsz hr j j (Nat.le_refl _) (by rw [← Op.len]; exact hj))
  induction fuel with
  | zero =>
    intro listed a w hsz hu hcl hI
    have hr : Region.ready .any ops listed = [] := by
      rw [List.eq_nil_iff_forall_not_mem]
      intro i hi
      obtain ⟨h1, h2, _⟩ := ready_mem hi
      have : i ∈ unl ops.size listed := by
        unfold unl
        rw [List.mem_filter, List.mem_range]
        refine ⟨h1, ?_⟩
        have : listed.getD i false = false := by simpa [Array.getD, hsz, h1] using h2
        rw [this]; rfl
      rw [List.eq_nil_of_length_eq_zero (by omega : (unl ops.size listed).length = 0)] at this
      cases this
    exact ⟨hr, fin listed a w hsz hI hr⟩
  | succ fuel ih =>
    intro listed a w hsz hu hcl hI
    refine ⟨fun hr => fin listed a w hsz hI hr, fun i hi => ?_⟩
    obtain ⟨hlt, hni, hready⟩ := ready_mem hi
    have hni' : listed.getD i false = false := by simpa [Array.getD, hsz, hlt] using hni
    have hnL : ¬ Lst listed i := by unfold Lst; rw [hni']; simp
    have hlt' : i < l.length := by rw [Op.len]; exact hlt
    obtain ⟨m, F, O, E, I⟩ := hI
    have ho : ops[i]? = some ops[i] := Array.getElem?_eq_getElem hlt
    have hd : l[i]? = some l[i] := List.getElem?_eq_getElem hlt'
    have hclose := Op.closed hcl
    have hL : ∀ (j : Nat) (d : DR), l[j]? = some d → Lst listed j → ∀ i, i < l.length → bit d.pre i = true → Lst listed i := fun j d hd' hj i' hi' hb => (hclose j j d (Nat.le_refl _) hd' (fun o ho' => hcl j o ho' hj) i' hi' hb).1
    have hpre : ∀ j, j < l.length → bit l[i].pre j = true → Lst listed j ∧ j < i := fun j hj hb => hclose i i l[i] (Nat.le_refl _) hd hready j hj hb
    have hK : ∀ m' F' O' E' a' w', Inv nt l S s E0 w0 (fun j => Lst listed j ∨ j = i) m' F' O' E' a' w' → wpAny P .any ops (CodePost nt s E0 w0 rc) fuel (listed.setIfInBounds i true) a' w' := by
      intro m' F' O' E' a' w' I'
      have hset := lst_set (listed := listed) (i := i) (by rw [hsz]; exact hlt)
      refine ih _ a' w' (by simp [hsz]) (by have := unl_set (listed := listed) hlt (by rw [hsz]; exact hlt) hni'; omega) ?_ ⟨m', F', O', E', I'.lift (fun j => (hset j).symm)⟩
      intro j o ho' hj e he hb
      rw [hset] at hj ⊢
      rcases hj with hj | rfl
      · exact .inl (hcl j o ho' hj e he hb)
      · exact .inl (hready o ho' e he hb)
    have hstep : if Region.wanted ops[i] (yielded ops a.tmps) = true then ops[i].wp P a w (wpAny P .any ops (CodePost nt s E0 w0 rc) fuel (listed.setIfInBounds i true)) (CodePost nt s E0 w0 rc) else wpAny P .any ops (CodePost nt s E0 w0 rc) fuel (listed.setIfInBounds i true) (a.put ops[i].dst Go.undef) w := by
      by_cases hm : isMut l[i] (S i)
      · exact I.step_mut hsc C Op ho hd hnL hL hpre hb0 rel0 hm hK
      · exact I.step_still C Op ho hd hnL hL (fun j h1 h2 => (hpre j h1 h2).1) hb0 rel0 hm hK
    unfold wpOp
    rw [ho]
    dsimp only
    by_cases hw : Region.wanted ops[i] (yielded ops a.tmps) = true
    · rw [if_pos hw] at hstep ⊢; exact .inl hstep
    · rw [if_neg hw] at hstep ⊢; exact hstep
end
theorem drawn_ok [Lay] (hm : P.follows .mixedOrders = true) (call : CallT) (hsc : SoundCall P call) : DrawnOk P call := by
  intro nt id ops c h
  obtain ⟨l, rfl, Op⟩ := open_of_cc h
  refine ⟨l, rfl, ?_⟩
  intro f s a E w rf rel hne
  have e0 : exdrawn call l f s = ups l.length s.n fun n => exdraw call l s.n f s.h n [] [] [] := rfl
  rw [e0] at hne ⊢
  rcases ups_ok l.length s.n (fun n => exdraw call l s.n f s.h n [] [] []) with hu | ⟨n', hn', hu⟩
  · rw [hu] at hne; exact absurd rfl hne
  rw [hu] at hne ⊢
  obtain ⟨S, h0, hS, hend⟩ := exdraw_chain ⟨s.n, f, s.h, n', [], [], []⟩ hne
  have C : Chain call l S := ⟨hS, fun j d hd => (Op.op j d hd).elim fun o ho => ho.2.1, by rw [h0], by rw [h0], by rw [h0]⟩
  refine wp_region_any hm (any_ok hsc C Op (by rw [h0]) rel hend ops.size _ a w.drew (by simp) ?_ ?_ ⟨0, f, s.obj, E, ?_⟩)
  · unfold unl
    exact Nat.le_trans (List.length_filter_le _ _) (by simp)
  · intro j o ho hj
    exfalso
    unfold Lst at hj
    simp [Array.getD_eq_getD_getElem?, Array.getElem?_replicate] at hj
    split at hj <;> simp at hj
  · have hno : ∀ j, ¬ Lst (Array.replicate ops.size false) j := fun j hj => by
      unfold Lst at hj
      simp [Array.getD_eq_getD_getElem?, Array.getElem?_replicate] at hj
      split at hj <;> simp at hj
    refine ⟨Nat.zero_le _, fun j d hd hmm => ⟨fun h => absurd h (hno j), fun h => by omega⟩, rf.mono (.drew E w), fun t k hk hc => ?_, rel_keep rel.h (.drew E w) (fun _ _ => rfl) (Nat.le_refl _) (fun k hk => .inl hk), fun i d hi => absurd hi (hno i), fun b _ => ?_, fun b hb => .inl hb, ?_, ?_⟩
    · have := C.frame (t := t) (j := 0) k (Nat.zero_le _) hk (fun i d hd _ hik hdst => hno i ((hc i d hd hdst).mpr hik))
      rw [this, h0]
    · rw [h0]; rfl
    · rw [h0]; show _ ≤ n'.val; omega
    · exact ⟨fun _ h => h, fun _ _ => rfl, fun _ h => .inl h, fun _ h => h, fun _ h => .inl h, rfl, rfl, rfl, Nat.le_refl _, fun _ _ _ => rfl, .of_old fun _ _ => rfl, fun b hb => .inl ⟨b, hb, rfl⟩⟩
theorem sound [Lay] (hm : P.follows .mixedOrders = true) (k : Nat) : SoundCall P (ev (prog P) k) := ev_sound (drawn_ok hm) k
end Go.Vm
