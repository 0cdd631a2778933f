/- The abstract machine is sound: the statements whose order is open: their steps in the text's order. No condition. -/
import Derived.Test.YtjnejkganejdbaaVmV
namespace Go.Vm
set_option linter.unusedVariables false
variable {P : Program}
structure DS where
  b : Id
  f : Fr AV
  h : Tab AO
  n : Id
  ps : List Pd
  rs : List Rd
  ws : List Wr
noncomputable def CR.guard : CR → CG
  | .mk _ _ g => g
noncomputable def CR.cop : CR → COp
  | .mk _ o _ => o
noncomputable def CR.cd : CR → CD
  | .mk d _ _ => d
noncomputable def DR.want (d : DR) (S : DS) : Bool := wanted d.cr.guard S.f
/-- What a block-making operation makes. -/
noncomputable def made (d : DR) (S : DS) : AO := (exop d.cr.cop noCall S.f (.mk (.rep .dead) S.b)).on .dead fun _ s1 => S.b.get s1.h
def KStep (call : CallT) (d : DR) (S S' : DS) (v : AV) : Kind → Prop
  | .quiet => (∃ s1, exop d.cr.cop noCall S.f .empty = .ok v s1) ∧ S'.h = S.h ∧ S'.n = S.n ∧ S'.ps = S.ps ∧ S'.rs = S.rs ∧ S'.ws = S.ws
  | .alloc => (∃ s1, exop d.cr.cop noCall S.f (.mk (.rep .dead) S.b) = .ok v s1) ∧ S'.h = S.h ∧ S'.n = S.n ∧ S'.ps = ⟨d.i, S.b, made d S⟩ :: S.ps ∧ S'.rs = S.rs ∧ S'.ws = S.ws
  | .read => (∃ s1, exop d.cr.cop noCall S.f (.mk S.h S.n) = .ok v s1) ∧ writesOk d.pre S.n S.f d.cr.cop v S.ws = true ∧ S'.h = S.h ∧ S'.n = S.n ∧ S'.ps = S.ps ∧ S'.rs = ⟨d.i, S.f, d.cr.cop, v⟩ :: S.rs ∧ S'.ws = S.ws
  | .mut => allPre d.pre (S.ws.map (·.i)) = true ∧ exop d.cr.cop call S.f (.mk (flush (S.ps.filter fun p => bit d.pre p.i) S.h) S.n) = .ok v (.mk S'.h S'.n) ∧ readsOk d.pre S'.h S'.n S.rs = true ∧
      S'.ps = (S.ps.filter fun p => !bit d.pre p.i) ∧ S'.rs = S.rs ∧ S'.ws = ⟨d.i, S.h⟩ :: S.ws
def DStep (call : CallT) (d : DR) (S S' : DS) : Prop :=
  S'.b.val = S.b.val + 1 ∧ ((d.want S = false ∧ S'.f = putD d.cr.cd undef S.f ∧ S'.h = S.h ∧ S'.n = S.n ∧ S'.ps = S.ps ∧ S'.rs = S.rs ∧ S'.ws = S.ws) ∨
    (d.want S = true ∧ ∃ v, S'.f = putD d.cr.cd v S.f ∧ KStep call d S S' v d.kind))
theorem RC_on_ne {q : R} {k : AV → St → RC} (h : q.on .no k ≠ .no) : ∃ v s, q = .ok v s ∧ k v s ≠ .no ∧ q.on .no k = k v s := by
  cases q with
  | no => exact absurd rfl h
  | ok v s => exact ⟨v, s, rfl, h, rfl⟩
theorem St.eta (s : St) : s = .mk s.h s.n := by cases s; rfl
theorem exdraw_chain {call : CallT} {l : List DR} (S0 : DS) (hne : exdraw call l S0.b S0.f S0.h S0.n S0.ps S0.rs S0.ws ≠ .no) :
    ∃ S : Nat → DS, S 0 = S0 ∧ (∀ j d, l[j]? = some d → DStep call d (S j) (S (j + 1))) ∧ exdraw call l S0.b S0.f S0.h S0.n S0.ps S0.rs S0.ws = .nor (S l.length).f (.mk (flush (S l.length).ps (S l.length).h) (S l.length).n) := by
  induction l generalizing S0 with
  | nil => exact ⟨fun _ => S0, rfl, fun j d h => by simp at h, rfl⟩
  | cons d l ih =>
    -- one step, then the rest
    have go : ∀ S1 : DS, DStep call d S0 S1 → exdraw call l S1.b S1.f S1.h S1.n S1.ps S1.rs S1.ws ≠ .no → exdraw call (d :: l) S0.b S0.f S0.h S0.n S0.ps S0.rs S0.ws = exdraw call l S1.b S1.f S1.h S1.n S1.ps S1.rs S1.ws →
        ∃ S : Nat → DS, S 0 = S0 ∧ (∀ j e, (d :: l)[j]? = some e → DStep call e (S j) (S (j + 1))) ∧ exdraw call (d :: l) S0.b S0.f S0.h S0.n S0.ps S0.rs S0.ws = .nor (S (d :: l).length).f (.mk (flush (S (d :: l).length).ps (S (d :: l).length).h) (S (d :: l).length).n) := by
      intro S1 hs hne1 he
      obtain ⟨S, h0, hS, hend⟩ := ih S1 hne1
      refine ⟨fun j => match j with | 0 => S0 | j + 1 => S j, rfl, fun j e hj => ?_, ?_⟩
      · cases j with
        | zero => simp at hj; subst hj; show DStep call d S0 (S 0); rw [h0]; exact hs
        | succ j => exact hS j e (by simpa using hj)
      · rw [he, hend]; rfl
    obtain ⟨i, pre, k, cd, op, g⟩ := d
    have e0 : exdraw call (.mk i pre k (.mk cd op g) :: l) S0.b S0.f S0.h S0.n S0.ps S0.rs S0.ws = S0.b.up .no fun b' => br (wanted g S0.f) (exkind call (exdraw call l b') i pre cd op S0.b S0.f S0.h S0.n S0.ps S0.rs S0.ws k) (exdraw call l b' (putD cd undef S0.f) S0.h S0.n S0.ps S0.rs S0.ws) := rfl
    rw [e0] at hne
    rcases Id.up_spec S0.b RC.no (fun b' => br (wanted g S0.f) (exkind call (exdraw call l b') i pre cd op S0.b S0.f S0.h S0.n S0.ps S0.rs S0.ws k) (exdraw call l b' (putD cd undef S0.f) S0.h S0.n S0.ps S0.rs S0.ws)) with hu | ⟨b', hb, hu⟩
    · rw [hu] at hne; exact absurd rfl hne
    · rw [hu] at hne e0
      cases hw : wanted g S0.f with
      | false =>
        rw [hw, br_false] at hne e0
        exact go ⟨b', putD cd undef S0.f, S0.h, S0.n, S0.ps, S0.rs, S0.ws⟩ ⟨hb, .inl ⟨hw, rfl, rfl, rfl, rfl, rfl, rfl⟩⟩ hne e0
      | true =>
        rw [hw, br_true] at hne e0
        cases k with
        | quiet =>
          obtain ⟨v, s1, h1, h2, h3⟩ := RC_on_ne (q := exop op noCall S0.f .empty) (k := fun v _ => exdraw call l b' (putD cd v S0.f) S0.h S0.n S0.ps S0.rs S0.ws) hne
          exact go ⟨b', putD cd v S0.f, S0.h, S0.n, S0.ps, S0.rs, S0.ws⟩ ⟨hb, .inr ⟨hw, v, rfl, ⟨s1, h1⟩, rfl, rfl, rfl, rfl, rfl⟩⟩ h2 (e0.trans h3)
        | alloc =>
          obtain ⟨v, s1, h1, h2, h3⟩ := RC_on_ne (q := exop op noCall S0.f (.mk (.rep .dead) S0.b)) (k := fun v s => exdraw call l b' (putD cd v S0.f) S0.h S0.n (⟨i, S0.b, S0.b.get s.h⟩ :: S0.ps) S0.rs S0.ws) hne
          have hm : made (.mk i pre .alloc (.mk cd op g)) S0 = S0.b.get s1.h := by
            show (exop op noCall S0.f (.mk (.rep .dead) S0.b)).on AO.dead _ = _
            rw [h1]; rfl
          exact go ⟨b', putD cd v S0.f, S0.h, S0.n, ⟨i, S0.b, S0.b.get s1.h⟩ :: S0.ps, S0.rs, S0.ws⟩ ⟨hb, .inr ⟨hw, v, rfl, ⟨s1, h1⟩, rfl, rfl, by rw [hm]; rfl, rfl, rfl⟩⟩ h2 (e0.trans h3)
        | read =>
          obtain ⟨v, s1, h1, h2, h3⟩ := RC_on_ne (q := exop op noCall S0.f (.mk S0.h S0.n)) (k := fun v _ => br (writesOk pre S0.n S0.f op v S0.ws) (exdraw call l b' (putD cd v S0.f) S0.h S0.n S0.ps (⟨i, S0.f, op, v⟩ :: S0.rs) S0.ws) .no) hne
          have e1 := e0.trans h3
          cases hq : writesOk pre S0.n S0.f op v S0.ws with
          | true =>
            rw [hq, br_true] at h2 e1
            exact go ⟨b', putD cd v S0.f, S0.h, S0.n, S0.ps, ⟨i, S0.f, op, v⟩ :: S0.rs, S0.ws⟩ ⟨hb, .inr ⟨hw, v, rfl, ⟨s1, h1⟩, hq, rfl, rfl, rfl, rfl, rfl⟩⟩ h2 e1
          | false => rw [hq] at h2; exact absurd rfl h2
        | «mut» =>
          cases hp : allPre pre (S0.ws.map (·.i)) with
          | true =>
            have hne' : (exop op call S0.f (.mk (flush (S0.ps.filter fun p => bit pre p.i) S0.h) S0.n)).on .no (fun v s => br (readsOk pre s.h s.n S0.rs) (exdraw call l b' (putD cd v S0.f) s.h s.n (S0.ps.filter fun p => !bit pre p.i) S0.rs (⟨i, S0.h⟩ :: S0.ws)) .no) ≠ .no := by
              have e2 : exkind call (exdraw call l b') i pre cd op S0.b S0.f S0.h S0.n S0.ps S0.rs S0.ws .mut = br (allPre pre (S0.ws.map (·.i))) ((exop op call S0.f (.mk (flush (S0.ps.filter fun p => bit pre p.i) S0.h) S0.n)).on .no (fun v s => br (readsOk pre s.h s.n S0.rs) (exdraw call l b' (putD cd v S0.f) s.h s.n (S0.ps.filter fun p => !bit pre p.i) S0.rs (⟨i, S0.h⟩ :: S0.ws)) .no)) .no := rfl
              rw [e2, hp, br_true] at hne; exact hne
            have e2 : exkind call (exdraw call l b') i pre cd op S0.b S0.f S0.h S0.n S0.ps S0.rs S0.ws .mut = (exop op call S0.f (.mk (flush (S0.ps.filter fun p => bit pre p.i) S0.h) S0.n)).on .no (fun v s => br (readsOk pre s.h s.n S0.rs) (exdraw call l b' (putD cd v S0.f) s.h s.n (S0.ps.filter fun p => !bit pre p.i) S0.rs (⟨i, S0.h⟩ :: S0.ws)) .no) := by
              show br (allPre pre (S0.ws.map (·.i))) _ _ = _
              rw [hp]; rfl
            obtain ⟨v, s1, h1, h2, h3⟩ := RC_on_ne hne'
            have e1 := (e0.trans e2).trans h3
            cases hq : readsOk pre s1.h s1.n S0.rs with
            | true =>
              rw [hq, br_true] at h2 e1
              exact go ⟨b', putD cd v S0.f, s1.h, s1.n, S0.ps.filter (fun p => !bit pre p.i), S0.rs, ⟨i, S0.h⟩ :: S0.ws⟩ ⟨hb, .inr ⟨hw, v, rfl, hp, by rw [← St.eta s1]; exact h1, hq, rfl, rfl, rfl⟩⟩ h2 e1
            | false => rw [hq] at h2; exact absurd rfl h2
          | false =>
            have e2 : exkind call (exdraw call l b') i pre cd op S0.b S0.f S0.h S0.n S0.ps S0.rs S0.ws .mut = .no := by
              show br (allPre pre (S0.ws.map (·.i))) _ _ = _
              rw [hp]; rfl
            rw [e2] at hne; exact absurd rfl hne

/-! ### Likeness is likeness -/
theorem like_eq : ∀ (n : Nat), (∀ a b : AV, SizeOf.sizeOf a ≤ n → like a b = true → a = b) ∧ (∀ l m : List AV, SizeOf.sizeOf l ≤ n → like.likes l m = true → l = m) := by
  intro n
  induction n with
  | zero =>
    refine ⟨fun a b h _ => ?_, fun l m h _ => ?_⟩
    · cases a <;> simp at h
    · cases l <;> simp at h
  | succ n ih =>
    obtain ⟨iha, ihl⟩ := ih
    refine ⟨fun a b h hl => ?_, fun l m h hl => ?_⟩
    · cases a <;> cases b <;> simp only [like, Bool.and_eq_true, beq_iff_eq, decide_eq_true_eq, Bool.false_eq_true] at hl
      case bool.bool => rw [hl]
      case int.int => rw [(keq_iff _ _).mp hl.1, hl.2]
      case str.str => rw [hl]
      case nilp.nilp => rfl
      case ptr.ptr => rw [hl.1, hl.2]
      case tp.tp => rw [ihl _ _ (by simp at h; omega) hl]
      case nils.nils => rfl
      case sl.sl => obtain ⟨⟨⟨⟨h1, h2⟩, h3⟩, h4⟩, h5⟩ := hl; rw [h1, h2, h3, h4, h5]
      case ts.ts => obtain ⟨⟨⟨h1, h2⟩, h3⟩, h4⟩ := hl; rw [ihl _ _ (by simp at h; omega) h1, h2, h3, h4]
      case nilm.nilm => rfl
      case map.map => rw [hl]
      case nilf.nilf => rfl
      case fn.fn => obtain ⟨⟨h1, h2⟩, h3⟩ := hl; rw [h1, ihl _ _ (by simp at h; omega) h2, ihl _ _ (by simp at h; omega) h3]
      case nili.nili => rfl
      case ifc.ifc => rw [hl.1, iha _ _ (by simp at h; omega) hl.2]
      case agg.agg => rw [ihl _ _ (by simp at h; omega) hl]
      case tup.tup => rw [ihl _ _ (by simp at h; omega) hl]
    · cases l <;> cases m <;> simp only [like.likes, Bool.and_eq_true, Bool.false_eq_true] at hl
      case nil.nil => rfl
      case cons.cons => rw [iha _ _ (by simp at h; omega) hl.1, ihl _ _ (by simp at h; omega) hl.2]
theorem like_ok {a b : AV} (h : like a b = true) : a = b := (like_eq (SizeOf.sizeOf a)).1 a b (Nat.le_refl _) h
theorem again_ok {h : Tab AO} {n : Id} {f : Fr AV} {op : COp} {v : AV} (hh : again h n f op v = true) : ∃ s1, exop op noCall f (.mk h n) = .ok v s1 := by
  unfold again at hh
  cases hq : exop op noCall f (.mk h n) with
  | no => rw [hq] at hh; cases hh
  | ok u s1 => rw [hq] at hh; exact ⟨s1, by rw [like_ok hh]⟩
theorem flush_get (ps : List Pd) (h : Tab AO) (b : Id) : (∃ p ∈ ps, p.b = b ∧ b.get (flush ps h) = p.o) ∨ ((∀ p ∈ ps, p.b ≠ b) ∧ b.get (flush ps h) = b.get h) := by
  induction ps generalizing h with
  | nil => exact .inr ⟨fun p hp => by simp at hp, rfl⟩
  | cons p ps ih =>
    show (∃ q ∈ p :: ps, q.b = b ∧ b.get (flush ps (p.b.set p.o h)) = q.o) ∨ (_ ∧ b.get (flush ps (p.b.set p.o h)) = _)
    rcases ih (p.b.set p.o h) with ⟨q, hq, h1, h2⟩ | ⟨h1, h2⟩
    · exact .inl ⟨q, List.mem_cons_of_mem _ hq, h1, h2⟩
    · rw [Id.get_set] at h2
      by_cases hb : b = p.b
      · rw [if_pos hb] at h2; exact .inl ⟨p, List.mem_cons_self, hb.symm, h2⟩
      · rw [if_neg hb] at h2
        exact .inr ⟨fun q hq => by rcases List.mem_cons.mp hq with rfl | hq <;> first | exact fun e => hb e.symm | exact h1 q hq, h2⟩
end Go.Vm
