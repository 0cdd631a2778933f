/- The abstract machine is sound: the statements whose order is open: what lies along their chain. No condition. -/
import Derived.Test.YtjnejkganejdbaaVmW
namespace Go.Vm
set_option linter.unusedVariables false
variable {P : Program}
/-- A chain of steps. -/
structure Chain (call : CallT) (l : List DR) (S : Nat → DS) : Prop where
  step : ∀ j (d : DR), l[j]? = some d → DStep call d (S j) (S (j + 1))
  idx : ∀ j (d : DR), l[j]? = some d → d.i = j
  ps0 : (S 0).ps = []
  rs0 : (S 0).rs = []
  ws0 : (S 0).ws = []
def isMut (d : DR) (S : DS) : Prop := d.kind = .mut ∧ d.want S = true
def isNew (d : DR) (S : DS) : Prop := d.kind = .alloc ∧ d.want S = true
section
variable {call : CallT} {l : List DR} {S : Nat → DS}
theorem Chain.get (C : Chain call l S) {j : Nat} (h : j < l.length) : ∃ d, l[j]? = some d ∧ DStep call d (S j) (S (j + 1)) := ⟨l[j], List.getElem?_eq_getElem h, C.step j _ (List.getElem?_eq_getElem h)⟩
theorem Chain.name (C : Chain call l S) : ∀ j, j ≤ l.length → (S j).b.val = (S 0).b.val + j := by
  intro j
  induction j with
  | zero => intro _; rfl
  | succ j ih =>
    intro h
    obtain ⟨d, _, hs⟩ := C.get (show j < l.length by omega)
    rw [hs.1, ih (by omega)]; omega
theorem CR.dst_cd (c : CR) : (c.dst = none ∧ c.cd = .none) ∨ ∃ s, c.dst = some s ∧ c.cd = .d s := by
  obtain ⟨cd, op, g⟩ := c
  cases cd with
  | none => exact .inl ⟨rfl, rfl⟩
  | d s => exact .inr ⟨s, rfl, rfl⟩
theorem putD_get {c : CR} {v : AV} {f : Fr AV} (t : Sl) : t.get (putD c.cd v f) = if c.dst = some t then v else t.get f := by
  rcases c.dst_cd with ⟨h1, h2⟩ | ⟨s, h1, h2⟩
  · rw [h1, h2, if_neg (by simp)]; rfl
  · rw [h1, h2]
    show t.get (s.set v f) = _
    rw [Sl.get_set]
    by_cases h : t = s
    · rw [if_pos h, if_pos (by rw [h])]
    · rw [if_neg h, if_neg (fun e => h (Option.some.inj e).symm)]
/-- What a step writes into the frame. -/
theorem DStep.frame {d : DR} {S0 S1 : DS} (h : DStep call d S0 S1) : ∃ v, S1.f = putD d.cr.cd v S0.f := by
  rcases h.2 with ⟨_, h, _⟩ | ⟨_, v, h, _⟩
  · exact ⟨undef, h⟩
  · exact ⟨v, h⟩
theorem Chain.frame (C : Chain call l S) {t : Sl} {j : Nat} : ∀ k, j ≤ k → k ≤ l.length → (∀ i d, l[i]? = some d → j ≤ i → i < k → d.cr.dst ≠ some t) → t.get (S k).f = t.get (S j).f := by
  intro k
  induction k with
  | zero => intro h _ _; rw [show j = 0 by omega]
  | succ k ih =>
    intro h hk hn
    by_cases hj : j = k + 1
    · rw [hj]
    · obtain ⟨d, hd, hs⟩ := C.get (show k < l.length by omega)
      obtain ⟨v, hv⟩ := hs.frame
      rw [hv, putD_get, if_neg (hn k d hd (by omega) (by omega))]
      exact ih (by omega) (by omega) (fun i e hi h1 h2 => hn i e hi h1 (by omega))
theorem DStep.still {d : DR} {S0 S1 : DS} (h : DStep call d S0 S1) (hn : ¬ isMut d S0) : S1.h = S0.h ∧ S1.n = S0.n := by
  rcases h.2 with ⟨_, _, h1, h2, _⟩ | ⟨hw, v, _, hk⟩
  · exact ⟨h1, h2⟩
  · cases hkk : d.kind with
    | quiet => rw [hkk] at hk; exact ⟨hk.2.1, hk.2.2.1⟩
    | alloc => rw [hkk] at hk; exact ⟨hk.2.1, hk.2.2.1⟩
    | read => rw [hkk] at hk; exact ⟨hk.2.2.1, hk.2.2.2.1⟩
    | «mut» => exact absurd ⟨hkk, hw⟩ hn
theorem Chain.heap (C : Chain call l S) {j : Nat} : ∀ k, j ≤ k → k ≤ l.length → (∀ i d, l[i]? = some d → j ≤ i → i < k → ¬ isMut d (S i)) → (S k).h = (S j).h ∧ (S k).n = (S j).n := by
  intro k
  induction k with
  | zero => intro h _ _; rw [show j = 0 by omega]; exact ⟨rfl, rfl⟩
  | succ k ih =>
    intro h hk hn
    by_cases hj : j = k + 1
    · rw [hj]; exact ⟨rfl, rfl⟩
    · obtain ⟨d, hd, hs⟩ := C.get (show k < l.length by omega)
      obtain ⟨h1, h2⟩ := hs.still (hn k d hd (by omega) (by omega))
      obtain ⟨h3, h4⟩ := ih (by omega) (by omega) (fun i e hi h5 h6 => hn i e hi h5 (by omega))
      exact ⟨h1.trans h3, h2.trans h4⟩
/-- What stays of the lists. -/
theorem DStep.lists {d : DR} {S0 S1 : DS} (h : DStep call d S0 S1) : (∀ x ∈ S0.rs, x ∈ S1.rs) ∧ (∀ x ∈ S0.ws, x ∈ S1.ws) := by
  rcases h.2 with ⟨_, _, _, _, _, h1, h2⟩ | ⟨hw, v, _, hk⟩
  · exact ⟨fun x hx => by rw [h1]; exact hx, fun x hx => by rw [h2]; exact hx⟩
  · cases hkk : d.kind with
    | quiet => rw [hkk] at hk; obtain ⟨_, _, _, _, h1, h2⟩ := hk; exact ⟨fun x hx => by rw [h1]; exact hx, fun x hx => by rw [h2]; exact hx⟩
    | alloc => rw [hkk] at hk; obtain ⟨_, _, _, _, h1, h2⟩ := hk; exact ⟨fun x hx => by rw [h1]; exact hx, fun x hx => by rw [h2]; exact hx⟩
    | read => rw [hkk] at hk; obtain ⟨_, _, _, _, _, h1, h2⟩ := hk; exact ⟨fun x hx => by rw [h1]; exact List.mem_cons_of_mem _ hx, fun x hx => by rw [h2]; exact hx⟩
    | «mut» => rw [hkk] at hk; obtain ⟨_, _, _, _, h1, h2⟩ := hk; exact ⟨fun x hx => by rw [h1]; exact hx, fun x hx => by rw [h2]; exact List.mem_cons_of_mem _ hx⟩
theorem Chain.lists (C : Chain call l S) {j : Nat} : ∀ k, j ≤ k → k ≤ l.length → (∀ x ∈ (S j).rs, x ∈ (S k).rs) ∧ (∀ x ∈ (S j).ws, x ∈ (S k).ws) := by
  intro k
  induction k with
  | zero => intro h _; rw [show j = 0 by omega]; exact ⟨fun _ h => h, fun _ h => h⟩
  | succ k ih =>
    intro h hk
    by_cases hj : j = k + 1
    · rw [hj]; exact ⟨fun _ h => h, fun _ h => h⟩
    · obtain ⟨d, hd, hs⟩ := C.get (show k < l.length by omega)
      obtain ⟨h1, h2⟩ := ih (by omega) (by omega)
      exact ⟨fun x hx => hs.lists.1 x (h1 x hx), fun x hx => hs.lists.2 x (h2 x hx)⟩
/-- A wanted write is kept. -/
theorem Chain.wrote (C : Chain call l S) {j k : Nat} {d : DR} (hd : l[j]? = some d) (hm : isMut d (S j)) (hjk : j < k) (hk : k ≤ l.length) : ⟨j, (S j).h⟩ ∈ (S k).ws := by
  refine (C.lists k hjk hk).2 _ ?_
  have hs := C.step j d hd
  rcases hs.2 with ⟨hw, _⟩ | ⟨_, v, _, hkk⟩
  · rw [hm.2] at hw; cases hw
  · rw [hm.1] at hkk
    obtain ⟨_, _, _, _, _, h2⟩ := hkk
    rw [h2, C.idx j d hd]; exact List.mem_cons_self
theorem Chain.read (C : Chain call l S) {j k : Nat} {d : DR} (hd : l[j]? = some d) {v : AV} (hk' : d.kind = .read) (hw : d.want (S j) = true) (hv : (S (j + 1)).f = putD d.cr.cd v (S j).f) (hx : ∃ s1, exop d.cr.cop noCall (S j).f (.mk (S j).h (S j).n) = .ok v s1) (hjk : j < k) (hk : k ≤ l.length) : ⟨j, (S j).f, d.cr.cop, v⟩ ∈ (S k).rs := by
  refine (C.lists k hjk hk).1 _ ?_
  have hs := C.step j d hd
  rcases hs.2 with ⟨hw', _⟩ | ⟨_, v', hv', hkk⟩
  · rw [hw] at hw'; cases hw'
  · rw [hk'] at hkk
    obtain ⟨⟨s1, h1⟩, _, _, _, _, h2, _⟩ := hkk
    obtain ⟨s2, h3⟩ := hx
    have : v' = v := by rw [h1] at h3; exact (ok_inj h3).1
    rw [h2, C.idx j d hd, this]; exact List.mem_cons_self
theorem writesOk_mem {pre : Nat} {n : Id} {f : Fr AV} {op : COp} {v : AV} {ws : List Wr} (h : writesOk pre n f op v ws = true) {x : Wr} (hx : x ∈ ws) (hb : bit pre x.i = false) : again x.h n f op v = true := by
  induction ws with
  | nil => cases hx
  | cons y ws ih =>
    simp only [writesOk, Bool.and_eq_true, Bool.or_eq_true] at h
    rcases List.mem_cons.mp hx with rfl | hx
    · exact h.1.resolve_left (by rw [hb]; simp)
    · exact ih h.2 hx
theorem readsOk_mem {pre : Nat} {h : Tab AO} {n : Id} {rs : List Rd} (hh : readsOk pre h n rs = true) {x : Rd} (hx : x ∈ rs) (hb : bit pre x.i = false) : again h n x.f x.op x.v = true := by
  induction rs with
  | nil => cases hx
  | cons y rs ih =>
    simp only [readsOk, Bool.and_eq_true, Bool.or_eq_true] at hh
    rcases List.mem_cons.mp hx with rfl | hx
    · exact hh.1.resolve_left (by rw [hb]; simp)
    · exact ih hh.2 hx
theorem allPre_mem {pre : Nat} {is : List Nat} (h : allPre pre is = true) {i : Nat} (hi : i ∈ is) : bit pre i = true := by
  induction is with
  | nil => cases hi
  | cons j is ih =>
    simp only [allPre, Bool.and_eq_true] at h
    rcases List.mem_cons.mp hi with rfl | hi
    · exact h.1
    · exact ih h.2 hi
/-- Pending: made, wanted, flushed by no write up to here. -/
def Pending (l : List DR) (S : Nat → DS) (k i : Nat) (d : DR) : Prop := l[i]? = some d ∧ isNew d (S i) ∧ ∀ j e, l[j]? = some e → isMut e (S j) → i < j → j < k → bit e.pre i = false
theorem Chain.pend (C : Chain call l S) : ∀ k, k ≤ l.length → ∀ p : Pd, p ∈ (S k).ps ↔ ∃ i d, i < k ∧ Pending l S k i d ∧ p = ⟨i, (S i).b, made d (S i)⟩ := by
  intro k
  induction k with
  | zero => intro _ p; rw [C.ps0]; exact ⟨(fun h => by cases h), fun ⟨i, _, h, _⟩ => by omega⟩
  | succ k ih =>
    intro hk p
    have ih := ih (by omega)
    obtain ⟨d, hd, hs⟩ := C.get (show k < l.length by omega)
    -- a step that is no write and makes nothing
    have same : ¬ isMut d (S k) → ¬ isNew d (S k) → (S (k + 1)).ps = (S k).ps → (p ∈ (S (k + 1)).ps ↔ ∃ i d, i < k + 1 ∧ Pending l S (k + 1) i d ∧ p = ⟨i, (S i).b, made d (S i)⟩) := by
      intro hm hn hps
      rw [hps, ih p]
      constructor
      · rintro ⟨i, e, h1, ⟨h2, h3, h4⟩, h5⟩
        refine ⟨i, e, by omega, ⟨h2, h3, fun j q hq hqm h6 h7 => ?_⟩, h5⟩
        by_cases hj : j = k
        · subst hj; rw [hd] at hq; cases hq; exact absurd hqm hm
        · exact h4 j q hq hqm h6 (by omega)
      · rintro ⟨i, e, h1, ⟨h2, h3, h4⟩, h5⟩
        have hik : i ≠ k := fun h => by subst h; rw [hd] at h2; cases h2; exact hn h3
        exact ⟨i, e, by omega, ⟨h2, h3, fun j q hq hqm h6 h7 => h4 j q hq hqm h6 (by omega)⟩, h5⟩
    rcases hs.2 with ⟨hw, _, _, _, hps, _⟩ | ⟨hw, v, _, hkk⟩
    · exact same (fun h => by rw [h.2] at hw; cases hw) (fun h => by rw [h.2] at hw; cases hw) hps
    · cases hq : d.kind with
      | quiet => rw [hq] at hkk; exact same (fun h => by rw [h.1] at hq; cases hq) (fun h => by rw [h.1] at hq; cases hq) hkk.2.2.2.1
      | read => rw [hq] at hkk; exact same (fun h => by rw [h.1] at hq; cases hq) (fun h => by rw [h.1] at hq; cases hq) hkk.2.2.2.2.1
      | alloc =>
        rw [hq] at hkk
        obtain ⟨_, _, _, hps, _⟩ := hkk
        rw [hps, List.mem_cons, ih p, C.idx k d hd]
        constructor
        · rintro (h | ⟨i, e, h1, ⟨h2, h3, h4⟩, h5⟩)
          · exact ⟨k, d, by omega, ⟨hd, ⟨hq, hw⟩, fun j q _ _ h6 h7 => by omega⟩, h⟩
          · refine ⟨i, e, by omega, ⟨h2, h3, fun j q hq' hqm h6 h7 => ?_⟩, h5⟩
            by_cases hj : j = k
            · subst hj; rw [hd] at hq'; cases hq'; rw [hqm.1] at hq; cases hq
            · exact h4 j q hq' hqm h6 (by omega)
        · rintro ⟨i, e, h1, ⟨h2, h3, h4⟩, h5⟩
          by_cases hik : i = k
          · subst hik; rw [hd] at h2; cases h2; exact .inl h5
          · exact .inr ⟨i, e, by omega, ⟨h2, h3, fun j q hq hqm h6 h7 => h4 j q hq hqm h6 (by omega)⟩, h5⟩
      | «mut» =>
        rw [hq] at hkk
        obtain ⟨_, _, _, hps, _⟩ := hkk
        rw [hps, List.mem_filter, ih p]
        constructor
        · rintro ⟨⟨i, e, h1, ⟨h2, h3, h4⟩, h5⟩, h6⟩
          refine ⟨i, e, by omega, ⟨h2, h3, fun j q hq' hqm h7 h8 => ?_⟩, h5⟩
          by_cases hj : j = k
          · subst hj; rw [hd] at hq'; cases hq'
            rw [h5] at h6; simpa using h6
          · exact h4 j q hq' hqm h7 (by omega)
        · rintro ⟨i, e, h1, ⟨h2, h3, h4⟩, h5⟩
          have hik : i ≠ k := fun h => by subst h; rw [hd] at h2; cases h2; rw [h3.1] at hq; cases hq
          refine ⟨⟨i, e, by omega, ⟨h2, h3, fun j q hq hqm h6 h7 => h4 j q hq hqm h6 (by omega)⟩, h5⟩, ?_⟩
          have := h4 k d hd ⟨hq, hw⟩ (by omega) (by omega)
          rw [h5]; simp [this]
end
end Go.Vm
