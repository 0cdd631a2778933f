/- Calls whose answers are settled. No condition. -/
import Derived.Test.YtfndnjmnakdglaaGreatDoorVmS
namespace Go.Vm
set_option linter.unusedVariables false
variable {P : Program}
def CallLe (c1 c2 : CallT) : Prop := ∀ g a s r s', c1 g a s = .ok r s' → c2 g a s = .ok r s'
theorem onR_ne {β : Type} {q : R} {d : β} {k : AV → St → β} (h : q.on d k ≠ d) : ∃ v s, q = .ok v s ∧ q.on d k = k v s := by
  cases q with
  | no => exact absurd rfl h
  | ok v s => exact ⟨v, s, rfl, rfl⟩
theorem exop_mono {c1 c2 : CallT} (hc : CallLe c1 c2) {co : COp} {f : Fr AV} {s s' : St} {r : AV} (h : exop co c1 f s = .ok r s') : exop co c2 f s = .ok r s' := by
  cases co with
  | callf g as => exact hc _ _ _ _ _ h
  | callv g as =>
    have h' : ((ev1 f g).onFn R.no fun g a b => c1 g (apd a (apd (evs f as) b)) s) = .ok r s' := h
    show ((ev1 f g).onFn R.no fun g a b => c2 g (apd a (apd (evs f as) b)) s) = .ok r s'
    revert h'
    cases ev1 f g <;> intro h' <;> first | exact hc _ _ _ _ _ h' | exact h'
  | _ => exact h
theorem exops_mono {c1 c2 : CallT} (hc : CallLe c1 c2) (l : List CR) : ∀ (f : Fr AV) (s : St), exops c1 l f s ≠ .no → exops c2 l f s = exops c1 l f s := by
  induction l with
  | nil => intro f s _; rfl
  | cons o l ih =>
    intro f s h
    obtain ⟨d, op, g⟩ := o
    have e : ∀ c, exops c (.mk d op g :: l) f s = br (wanted g f) ((exop op c f s).on .no fun v s => exops c l (putD d v f) s) (exops c l (putD d undef f) s) := fun _ => rfl
    rw [e] at h ⊢
    rw [e]
    cases hw : wanted g f with
    | true =>
      rw [hw] at h
      obtain ⟨v, s1, h1, h2⟩ := onR_ne (d := RC.no) h
      rw [h1] at h ⊢
      rw [exop_mono hc h1]
      exact ih _ _ h
    | false => rw [hw] at h; exact ih _ _ h
theorem Id.up_all (x : Id) : ∃ y : Id, y.val = x.val + 1 ∧ ∀ {β : Type} (n : β) (k : Id → β), x.up n k = k y := by
  have key : ∃ y : Id, ∀ {β : Type} (n : β) (k : Id → β), x.up n k = k y := by
    cases x with | mk a b c d e =>
    cases d <;> first | exact ⟨_, fun _ _ => rfl⟩ | skip
    cases c <;> first | exact ⟨_, fun _ _ => rfl⟩ | skip
    cases b <;> first | exact ⟨_, fun _ _ => rfl⟩ | skip
    cases a <;> exact ⟨_, fun _ _ => rfl⟩
  obtain ⟨y, h⟩ := key
  refine ⟨y, ?_, h⟩
  obtain ⟨z, hz, e⟩ := Id.up_sure x (none : Option Id) some
  rw [h] at e; cases e; exact hz
theorem Id.up_cases (x : Id) : (∀ {β : Type} (n : β) (k : Id → β), x.up n k = n) ∨ ∃ y : Id, y.val = x.val + 1 ∧ ∀ {β : Type} (n : β) (k : Id → β), x.up n k = k y := .inr x.up_all
theorem onR_eq {β : Type} {q q' : R} {d : β} {k k' : AV → St → β} (hq : ∀ v s, q = .ok v s → q' = .ok v s) (hk : ∀ v s, k v s ≠ d → k' v s = k v s) (h : q.on d k ≠ d) : q'.on d k' = q.on d k := by
  obtain ⟨v, s, h1, h2⟩ := onR_ne h
  rw [hq v s h1]
  rw [h1] at h ⊢
  exact hk v s h
theorem br_eq {β : Type} {b : Bool} {x x' y y' d : β} (hx : x ≠ d → x' = x) (hy : y ≠ d → y' = y) (h : br b x y ≠ d) : br b x' y' = br b x y := by
  cases b with
  | true => exact hx h
  | false => exact hy h
theorem onR2_eq {β : Type} {q q2 : R} {d : β} {k k' k2 k2' : AV → St → β} (hk : ∀ v s, k v s ≠ d → k' v s = k v s) (hk2 : ∀ v s, k2 v s ≠ d → k2' v s = k2 v s) (h : q.on (q2.on d k2) k ≠ d) : q.on (q2.on d k2') k' = q.on (q2.on d k2) k := by
  cases q with
  | no => exact onR_eq (fun v s hq => hq) hk2 h
  | ok v s => exact hk _ _ h
theorem exdraw_mono {c1 c2 : CallT} (hc : CallLe c1 c2) (l : List DR) : ∀ (b : Id) (f : Fr AV) (h : Tab AO) (n : Id) (ps : List Pd) (rs : List Rd) (ws : List Wr), exdraw c1 l b f h n ps rs ws ≠ .no → exdraw c2 l b f h n ps rs ws = exdraw c1 l b f h n ps rs ws := by
  induction l with
  | nil => intros; rfl
  | cons o l ih =>
    intro b f h n ps rs ws hne
    obtain ⟨i, pre, k, d, op, g⟩ := o
    have e : ∀ c, exdraw c (.mk i pre k (.mk d op g) :: l) b f h n ps rs ws = b.up .no fun b' => br (wanted g f) (exkind c (exdraw c l b') i pre d op b f h n ps rs ws k) (exdraw c l b' (putD d undef f) h n ps rs ws) := fun _ => rfl
    rw [e] at hne ⊢
    rw [e]
    rcases Id.up_cases b with h1 | ⟨b', hb', h1⟩
    · exact absurd (h1 _ _) hne
    · rw [h1] at hne ⊢
      rw [h1]
      refine br_eq (fun hk => ?_) (ih _ _ _ _ _ _ _) hne
      cases k
      · exact onR_eq (fun v s hq => hq) (fun v s hk => ih _ _ _ _ _ _ _ hk) hk
      · exact onR_eq (fun v s hq => hq) (fun v s hk => ih _ _ _ _ _ _ _ hk) hk
      · exact onR2_eq (fun v s hk => br_eq (fun hk => ih _ _ _ _ _ _ _ hk) (fun hk => absurd rfl hk) hk) (fun v s hk => ih _ _ _ _ _ _ _ hk) hk
      · exact br_eq (fun hk => onR_eq (fun v s hq => exop_mono hc hq) (fun v s hk => br_eq (fun hk => ih _ _ _ _ _ _ _ hk) (fun hk => absurd rfl hk) hk) hk) (fun hk => absurd rfl hk) hk
theorem ups_eq (m : Nat) : ∀ (n : Id) (k k' : Id → RC), (∀ x, k x ≠ .no → k' x = k x) → ups m n k ≠ .no → ups m n k' = ups m n k := by
  induction m with
  | zero => intro n k k' h hne; exact h _ hne
  | succ m ih =>
    intro n k k' h hne
    show (n.up .no fun n => ups m n k') = n.up .no fun n => ups m n k
    have hne' : (n.up RC.no fun n => ups m n k) ≠ .no := hne
    rcases Id.up_cases n with h1 | ⟨b', hb', h1⟩
    · exact absurd (h1 _ _) hne'
    · rw [h1] at hne'; rw [h1, h1]; exact ih _ _ _ h hne'
theorem seqK_eq {k k' : Fr AV → St → RC} {r r' : RC} (hr : r ≠ .no → r' = r) (hk : ∀ f s, k f s ≠ .no → k' f s = k f s) (h : seqK k r ≠ .no) : seqK k' r' = seqK k r := by
  cases r with
  | no => exact absurd rfl h
  | nor f s => rw [hr (by intro h; cases h)]; exact hk f s h
  | exit i f s => rw [hr (by intro h; cases h)]; rfl
  | ret f s => rw [hr (by intro h; cases h)]; rfl
theorem blockK_eq {i : Nat} {r r' : RC} (hr : r ≠ .no → r' = r) (h : blockK i r ≠ .no) : blockK i r' = blockK i r := by
  cases r with
  | no => exact absurd rfl h
  | _ => rw [hr (by intro h; cases h)]
theorem iter_eq {b b' : Fr AV → St → RC} (hb : ∀ f s, b f s ≠ .no → b' f s = b f s) (n : Nat) : ∀ (m : Nat), n ≤ m → ∀ f s, iter b n f s ≠ .no → iter b' m f s = iter b n f s := by
  induction n with
  | zero => intro m _ f s h; exact absurd rfl h
  | succ n ih =>
    intro m hm f s h
    cases m with
    | zero => omega
    | succ m => exact seqK_eq (hb f s) (fun f s h => ih m (by omega) f s h) h
theorem excode_mono {c1 c2 : CallT} (hc : CallLe c1 c2) {n m : Nat} (hn : n ≤ m) (c : CC) : ∀ (f : Fr AV) (s : St), excode c1 n c f s ≠ .no → excode c2 m c f s = excode c1 n c f s := by
  induction c with
  | skip => intros; rfl
  | region ops => intro f s h; exact exops_mono hc ops f s h
  | drawn ops => intro f s h; exact ups_eq _ _ _ _ (fun x hx => exdraw_mono hc ops _ _ _ _ _ _ _ hx) h
  | seq a b iha ihb => intro f s h; exact seqK_eq (iha f s) ihb h
  | cond c a b iha ihb =>
    intro f s h
    have h' : ((ev1 f c).onBool RC.no fun t => br t (excode c1 n a f s) (excode c1 n b f s)) ≠ .no := h
    show ((ev1 f c).onBool RC.no fun t => br t (excode c2 m a f s) (excode c2 m b f s)) = (ev1 f c).onBool RC.no fun t => br t (excode c1 n a f s) (excode c1 n b f s)
    revert h'
    cases ev1 f c <;> intro h' <;> first | exact br_eq (iha f s) (ihb f s) h' | exact absurd rfl h'
  | block i c ih => intro f s h; exact blockK_eq (ih f s) h
  | loop c ih => intro f s h; exact iter_eq ih n m hn f s h
  | exit i => intros; rfl
  | ret => intros; rfl
theorem evF_mono {c1 c2 : CallT} (hc : CallLe c1 c2) {n m : Nat} (hn : n ≤ m) {c : CF} {args : List AV} {s s' : St} {r : AV} (h : evF c1 n c args s = .ok r s') : evF c2 m c args s = .ok r s' := by
  cases c with
  | bad => cases h
  | mk nt res body =>
    have h' : br (Nat.ble (ln args) nt) (fin res (excode c1 n body (frame0 args) s)) .no = .ok r s' := h
    show br (Nat.ble (ln args) nt) (fin res (excode c2 m body (frame0 args) s)) .no = .ok r s'
    cases hb : Nat.ble (ln args) nt with
    | false => rw [hb] at h'; cases h'
    | true =>
      rw [hb] at h'
      have hne : excode c1 n body (frame0 args) s ≠ .no := by intro e; rw [e] at h'; cases h'
      rw [excode_mono hc hn body _ _ hne]; exact h'
end Go.Vm
namespace Go.Vm
set_option linter.unusedVariables false
variable {P : Program}
inductive Fz (n : Nat) (s : St) : AV → AV → Prop where
  | bool (b : Bool) : Fz n s (.bool b) (.bool b)
  | int (k : IntKind) (i : Int) : Fz n s (.int k i) (.int k i)
  | str (l : List UInt8) : Fz n s (.str l) (.str l)
  | nilp : Fz n s .nilp .nilp
  | nils : Fz n s .nils .nils
  | nilm : Fz n s .nilm .nilm
  | nilf : Fz n s .nilf .nilf
  | nili : Fz n s .nili .nili
  | ptrO (b : Id) (o : Nat) (h : b.val < n) : Fz n s (.ptr b o) (.ptr b o)
  | slO (b : Id) (o len cap ex : Nat) (h : b.val < n) : Fz n s (.sl b o len cap ex) (.sl b o len cap ex)
  | mapO (b : Id) (h : b.val < n) : Fz n s (.map b) (.map b)
  | ptrN (b : Id) (o : Nat) (cs l : List AV) (h : n ≤ b.val) (hc : s.obj b = .cells cs) (hl : l.length = (cs.drop o).length) (hr : ∀ (j : Nat) (c d : AV), (cs.drop o)[j]? = some c → l[j]? = some d → Fz n s c d) : Fz n s (.ptr b o) (.tp l)
  | slN (b : Id) (o len cap ex : Nat) (cs l : List AV) (h : n ≤ b.val) (hc : s.obj b = .cells cs) (hl : l.length = (cs.drop o).length) (hr : ∀ (j : Nat) (c d : AV), (cs.drop o)[j]? = some c → l[j]? = some d → Fz n s c d) : Fz n s (.sl b o len cap ex) (.ts l len len false)
  | tp (cs l : List AV) (hl : l.length = cs.length) (hr : ∀ (j : Nat) (c d : AV), cs[j]? = some c → l[j]? = some d → Fz n s c d) : Fz n s (.tp cs) (.tp l)
  | ts (cs l : List AV) (len cap : Nat) (ex : Bool) (hl : l.length = cs.length) (hr : ∀ (j : Nat) (c d : AV), cs[j]? = some c → l[j]? = some d → Fz n s c d) : Fz n s (.ts cs len cap ex) (.ts l len cap ex)
  | agg (cs l : List AV) (hl : l.length = cs.length) (hr : ∀ (j : Nat) (c d : AV), cs[j]? = some c → l[j]? = some d → Fz n s c d) : Fz n s (.agg cs) (.agg l)
  | tup (cs l : List AV) (hl : l.length = cs.length) (hr : ∀ (j : Nat) (c d : AV), cs[j]? = some c → l[j]? = some d → Fz n s c d) : Fz n s (.tup cs) (.tup l)
  | fn (f : Id) (as bs l m : List AV) (hl : l.length = as.length) (hr : ∀ (j : Nat) (c d : AV), as[j]? = some c → l[j]? = some d → Fz n s c d) (hm : m.length = bs.length) (hs : ∀ (j : Nat) (c d : AV), bs[j]? = some c → m[j]? = some d → Fz n s c d) : Fz n s (.fn f as bs) (.fn f l m)
  | ifc (t : TypeId) (v u : AV) (h : Fz n s v u) : Fz n s (.ifc t v) (.ifc t u)
theorem fz_row {n : Nat} {s : St} {cs l m : List AV} (hl : l.length = cs.length) (hm : m.length = cs.length) (ih : ∀ (j : Nat) (c d : AV), cs[j]? = some c → l[j]? = some d → ∀ e, Fz n s c e → d = e) (hr : ∀ (j : Nat) (c d : AV), cs[j]? = some c → m[j]? = some d → Fz n s c d) : l = m := by
  apply List.ext_getElem? 
  intro j
  by_cases hj : j < cs.length
  · obtain ⟨c, hc⟩ : ∃ c, cs[j]? = some c := ⟨_, List.getElem?_eq_getElem hj⟩
    have hjl : j < l.length := by omega
    have hjm : j < m.length := by omega
    rw [List.getElem?_eq_getElem hjl, List.getElem?_eq_getElem hjm]
    rw [ih j c _ hc (List.getElem?_eq_getElem hjl) _ (hr j c _ hc (List.getElem?_eq_getElem hjm))]
  · rw [List.getElem?_eq_none (by omega), List.getElem?_eq_none (by omega)]
theorem Fz.det {n : Nat} {s : St} {v a b : AV} (h : Fz n s v a) : Fz n s v b → a = b := by
  intro k
  induction h generalizing b with
  | bool | int | str | nilp | nils | nilm | nilf | nili => cases k; rfl
  | ptrO b o h => cases k with
    | ptrO => rfl
    | ptrN _ _ _ _ h' => omega
  | slO b o len cap ex h => cases k with
    | slO => rfl
    | slN _ _ _ _ _ _ _ h' => omega
  | mapO b h => cases k; rfl
  | ptrN b o cs l h hc hl hr ih => cases k with
    | ptrO _ _ h' => omega
    | ptrN _ _ cs' m h' hc' hl' hr' =>
      rw [hc] at hc'; cases hc'
      rw [fz_row hl hl' (fun j c d h1 h2 e he => ih j c d h1 h2 he) hr']
  | slN b o len cap ex cs l h hc hl hr ih => cases k with
    | slO _ _ _ _ _ h' => omega
    | slN _ _ _ _ _ cs' m h' hc' hl' hr' =>
      rw [hc] at hc'; cases hc'
      rw [fz_row hl hl' (fun j c d h1 h2 e he => ih j c d h1 h2 he) hr']
  | tp cs l hl hr ih => cases k with
    | tp _ m hl' hr' => rw [fz_row hl hl' (fun j c d h1 h2 e he => ih j c d h1 h2 he) hr']
  | ts cs l len cap ex hl hr ih => cases k with
    | ts _ m _ _ _ hl' hr' => rw [fz_row hl hl' (fun j c d h1 h2 e he => ih j c d h1 h2 he) hr']
  | agg cs l hl hr ih => cases k with
    | agg _ m hl' hr' => rw [fz_row hl hl' (fun j c d h1 h2 e he => ih j c d h1 h2 he) hr']
  | tup cs l hl hr ih => cases k with
    | tup _ m hl' hr' => rw [fz_row hl hl' (fun j c d h1 h2 e he => ih j c d h1 h2 he) hr']
  | fn f as bs l m hl hr hm hs ih1 ih2 => cases k with
    | fn _ _ _ l' m' hl' hr' hm' hs' =>
      rw [fz_row hl hl' (fun j c d h1 h2 e he => ih1 j c d h1 h2 he) hr', fz_row hm hm' (fun j c d h1 h2 e he => ih2 j c d h1 h2 he) hs']
  | ifc t v u h ih => cases k with
    | ifc _ _ u' h' => rw [ih h']
theorem Fz.one {n : Nat} {s : St} {v a : AV} (h : Fz n s v a) : a.one = v.one := by cases h <;> rfl
theorem fz_one {n : Nat} {s : St} {cs l : List AV} (hl : l.length = cs.length) (hr : ∀ (j : Nat) (c d : AV), cs[j]? = some c → l[j]? = some d → Fz n s c d) (h1 : ∀ c ∈ cs, c.one = true) : ∀ c ∈ l, c.one = true := by
  intro d hd
  obtain ⟨j, hj⟩ := List.getElem?_of_mem hd
  have hjl : j < l.length := (List.getElem?_eq_some_iff.mp hj).1
  have hc : cs[j]? = some (cs[j]'(by omega)) := List.getElem?_eq_getElem (by omega)
  rw [(hr j _ d hc hj).one]
  exact h1 _ (List.getElem_mem _)
structure Gift (n : Nat) (s' : St) (E' : Env) (w' : World) (G : Env) : Prop where
  rel : RelH s'.obj E' w'
  φ : ∀ b, b.val < n → E'.D b → G.D b ∧ G.φ b = E'.φ b
  I : ∀ k, E'.I k → G.I k
  new : ∀ b, n ≤ b.val → s'.obj b ≠ .dead → G.I (E'.φ b).block
theorem Fz.rv {n : Nat} {s' : St} {E' G : Env} {w' : World} (hg : Gift n s' E' w' G) {v a : AV} (h : Fz n s' v a) : ∀ {u : Value}, RV E' w' v u → RV G w' a u := by
  have row : ∀ {b : Id} {o : Nat} {cs l : List AV}, n ≤ b.val → s'.obj b = .cells cs → l.length = (cs.drop o).length → (∀ (j : Nat) (c d : AV), (cs.drop o)[j]? = some c → l[j]? = some d → ∀ {u : Value}, RV E' w' c u → RV G w' d u) →
      G.I (E'.φ b).block ∧ ∃ us : List Value, us.length = l.length ∧ (∀ (j : Nat) (u : Value), us[j]? = some u → w'.cell? ⟨(E'.φ b).block, (E'.φ b).off + o + j, none⟩ = some u) ∧ (∀ (j : Nat) (c : AV) (u : Value), l[j]? = some c → us[j]? = some u → RV G w' c u) ∧ ∀ c ∈ cs.drop o, c.one = true := by
    intro b o cs l hb hc hl ih
    have hne : s'.obj b ≠ .dead := by rw [hc]; intro h; cases h
    obtain ⟨c, e, us, H⟩ := hg.rel.cells b cs hc
    refine ⟨hg.new b hb hne, us.drop o, ?_, fun j u hu => ?_, fun j d u hd hu => ?_, fun c hc => H.one c (List.mem_of_mem_drop hc)⟩
    · rw [hl]; simp [H.row.len]
    · rw [List.getElem?_drop] at hu
      rw [show (E'.φ b).off + o + j = (E'.φ b).off + (o + j) by omega]
      exact holds_cell H (o + j) u hu
    · have hj : j < (cs.drop o).length := by rw [← hl]; exact (List.getElem?_eq_some_iff.mp hd).1
      exact ih j _ d (List.getElem?_eq_getElem hj) hd ((H.row.drop o).each j _ u (List.getElem?_eq_getElem hj) hu)
  have rl : ∀ {cs l : List AV} {us : List Value}, l.length = cs.length → (∀ (j : Nat) (c d : AV), cs[j]? = some c → l[j]? = some d → ∀ {u : Value}, RV E' w' c u → RV G w' d u) → us.length = cs.length → (∀ (j : Nat) (c : AV) (u : Value), cs[j]? = some c → us[j]? = some u → RV E' w' c u) → us.length = l.length ∧ ∀ (j : Nat) (c : AV) (u : Value), l[j]? = some c → us[j]? = some u → RV G w' c u := by
    intro cs l us hl ih h1 h2
    refine ⟨by omega, fun j d u hd hu => ?_⟩
    have hj : j < cs.length := by rw [← hl]; exact (List.getElem?_eq_some_iff.mp hd).1
    exact ih j _ d (List.getElem?_eq_getElem hj) hd (h2 j _ u (List.getElem?_eq_getElem hj) hu)
  have nn : ∀ {cs l : List AV}, l.length = cs.length → l ≠ [] → cs ≠ [] := by
    intro cs l hl hn e
    subst e
    exact hn (List.eq_nil_of_length_eq_zero hl)
  induction h with
  | bool b => intro u hu; cases hu; exact .bool b
  | int k i => intro u hu; cases hu; exact .int k i
  | str l => intro u hu; cases hu; exact .str _ _ (by assumption)
  | nilp => intro u hu; cases hu; exact .nilp
  | nils => intro u hu; cases hu; exact .nils
  | nilm => intro u hu; cases hu; exact .nilm
  | nilf => intro u hu; cases hu; exact .nilf
  | nili => intro u hu; cases hu; exact .nili
  | ptrO b o h =>
    intro u hu
    cases hu with | ptr _ _ hD =>
    obtain ⟨g1, g2⟩ := hg.φ b h hD
    rw [← g2]; exact .ptr b o g1
  | slO b o len cap ex h =>
    intro u hu
    cases hu with | sl _ _ _ _ cap' _ hD hl hc hx hs =>
    obtain ⟨g1, g2⟩ := hg.φ b h hD
    rw [← g2] at hs ⊢; exact .sl b o len cap cap' ex g1 hl hc hx hs
  | mapO b h =>
    intro u hu
    cases hu with | map _ hD =>
    obtain ⟨g1, g2⟩ := hg.φ b h hD
    rw [← g2]; exact .map b g1
  | ptrN b o cs l h hc hl hr ih =>
    intro u hu
    cases hu with | ptr _ _ hD =>
    obtain ⟨g1, us, g2, g3, g4, g5⟩ := row h hc hl ih
    exact .tp l _ _ us (fun _ => g1) g2 g3 g4 (fz_one hl hr g5)
  | slN b o len cap ex cs l h hc hl hr ih =>
    intro u hu
    cases hu with | sl _ _ _ _ cap' _ hD h1 h2 hx hs =>
    obtain ⟨g1, us, g2, g3, g4, g5⟩ := row h hc hl ih
    exact .ts l len len _ false _ _ us (fun _ => g1) g2 g3 g4 (fz_one hl hr g5) (by omega) (by omega) (fun h => by cases h)
  | tp cs l hl hr ih =>
    intro u hu
    cases hu with | tp _ g off us hI q1 q2 q3 q4 =>
    obtain ⟨g1, g2⟩ := rl hl ih q1 q3
    exact .tp l g off us (fun hn => hg.I g (hI (nn hl hn))) g1 q2 g2 (fz_one hl hr q4)
  | ts cs l len cap ex hl hr ih =>
    intro u hu
    cases hu with | ts _ _ _ cap' _ g off us hI q1 q2 q3 q4 q5 q6 q7 q8 =>
    obtain ⟨g1, g2⟩ := rl hl ih q1 q3
    exact .ts l len cap cap' ex g off us (fun hn => hg.I g (hI (nn hl hn))) g1 q2 g2 (fz_one hl hr q4) q5 q6 q7 (q8.imp id fun ⟨e1, e2, e3⟩ => ⟨e1, e2, List.eq_nil_of_length_eq_zero (by rw [hl, e3]; rfl)⟩)
  | agg cs l hl hr ih =>
    intro u hu
    cases hu with | agg _ us q1 q3 q4 =>
    obtain ⟨g1, g2⟩ := rl hl ih q1 q3
    exact .agg l us g1 g2 (fz_one hl hr q4)
  | tup cs l hl hr ih =>
    intro u hu
    cases hu with | tup _ us q1 q3 =>
    obtain ⟨g1, g2⟩ := rl hl ih q1 q3
    exact .tup l us g1 g2
  | fn f as bs l m hl hr hm hs ih1 ih2 =>
    intro u hu
    cases hu with | fn _ _ _ us vs q1 q2 q3 q4 =>
    obtain ⟨g1, g2⟩ := rl hl ih1 q1 q2
    obtain ⟨g3, g4⟩ := rl hm ih2 q3 q4
    exact .fn f l m us vs g1 g2 g3 g4
  | ifc t v u' h ih =>
    intro u hu
    cases hu with | ifc _ _ u2 h2 => exact .ifc t u' u2 (ih h2)
theorem RV.both {E E' G : Env} {w w' : World} (hD : ∀ b, E.D b → G.D b ∧ G.φ b = E'.φ b) (hI : ∀ k, E'.I k → G.I k) {c : AV} {u : Value} (h : RV E' w' c u) : ∀ {u0 : Value}, RV E w c u0 → RV G w' c u := by
  have rl : ∀ {cs : List AV} {us us0 : List Value}, (∀ (j : Nat) (c : AV) (u : Value), cs[j]? = some c → us[j]? = some u → ∀ {u0 : Value}, RV E w c u0 → RV G w' c u) → us0.length = cs.length → (∀ (j : Nat) (c : AV) (u : Value), cs[j]? = some c → us0[j]? = some u → RV E w c u) → ∀ (j : Nat) (c : AV) (u : Value), cs[j]? = some c → us[j]? = some u → RV G w' c u := by
    intro cs us us0 ih hl h2 j c u hc hu
    have hj : j < us0.length := by rw [hl]; exact (List.getElem?_eq_some_iff.mp hc).1
    exact ih j c u hc hu (h2 j c _ hc (List.getElem?_eq_getElem hj))
  induction h with
  | bool b => intro u0 h0; exact .bool b
  | int k i => intro u0 h0; exact .int k i
  | str l x e => intro u0 h0; exact .str _ _ e
  | nilp => intro u0 h0; exact .nilp
  | nils => intro u0 h0; exact .nils
  | nilm => intro u0 h0; exact .nilm
  | nilf => intro u0 h0; exact .nilf
  | nili => intro u0 h0; exact .nili
  | ptr b o h => intro u0 h0; cases h0 with | ptr _ _ h1 => obtain ⟨g1, g2⟩ := hD b h1; rw [← g2]; exact .ptr b o g1
  | map b h => intro u0 h0; cases h0 with | map _ h1 => obtain ⟨g1, g2⟩ := hD b h1; rw [← g2]; exact .map b g1
  | sl b o len cap cap' ex h hl hc hx hs => intro u0 h0; cases h0 with | sl _ _ _ _ _ _ h1 => obtain ⟨g1, g2⟩ := hD b h1; rw [← g2] at hs ⊢; exact .sl b o len cap cap' ex g1 hl hc hx hs
  | tp cs g off us hI' hl hc hr h1 ih => intro u0 h0; cases h0 with | tp _ _ _ us0 _ q1 _ q3 => exact .tp cs g off us (fun hn => hI _ (hI' hn)) hl hc (rl ih q1 q3) h1
  | ts cs len cap cap' ex g off us hI' hl hc hr h1 hlen hcap hx hsp ih => intro u0 h0; cases h0 with | ts _ _ _ _ _ _ _ us0 _ q1 _ q3 => exact .ts cs len cap cap' ex g off us (fun hn => hI _ (hI' hn)) hl hc (rl ih q1 q3) h1 hlen hcap hx hsp
  | agg cs us hl hr h1 ih => intro u0 h0; cases h0 with | agg _ us0 q1 q3 => exact .agg cs us hl (rl ih q1 q3) h1
  | tup cs us hl hr ih => intro u0 h0; cases h0 with | tup _ us0 q1 q3 => exact .tup cs us hl (rl ih q1 q3)
  | fn f as bs us vs hl hr hm hs ih1 ih2 => intro u0 h0; cases h0 with | fn _ _ _ us0 vs0 q1 q2 q3 q4 => exact .fn f as bs us vs hl (rl ih1 q1 q2) hm (rl ih2 q3 q4)
  | ifc t v u h ih => intro u0 h0; cases h0 with | ifc _ _ u2 h2 => exact .ifc t v u (ih h2)
def Old (s s' : St) : Prop := ∀ b : Id, b.val < s.n.val → s'.obj b = s.obj b
def Settled (s : St) (r0 : AV) (s0 : St) (r : AV) (s' : St) : Prop :=
  (Old s s0 ∧ Fz s.n.val s0 r0 r ∧ s' = s) ∨ ((¬ Old s s0 ∨ ∀ r1, ¬ Fz s.n.val s0 r0 r1) ∧ r = r0 ∧ s' = s0)
theorem Settled.det {s : St} {r0 : AV} {s0 : St} {r r' : AV} {s1 s2 : St} (h : Settled s r0 s0 r s1) (k : Settled s r0 s0 r' s2) : r = r' ∧ s1 = s2 := by
  rcases h with ⟨h1, h2, h3⟩ | ⟨h1, h2, h3⟩ <;> rcases k with ⟨k1, k2, k3⟩ | ⟨k1, k2, k3⟩
  · exact ⟨h2.det k2, by rw [h3, k3]⟩
  · rcases k1 with k1 | k1
    · exact absurd h1 k1
    · exact absurd h2 (k1 _)
  · rcases h1 with h1 | h1
    · exact absurd k1 h1
    · exact absurd k2 (h1 _)
  · exact ⟨by rw [h2, k2], by rw [h3, k3]⟩
theorem settled_went [Lay] {s s0 s' : St} {E E' : Env} {w w' : World} {r0 r : AV} {v : Value} (rel : Rel s E w) (hv : RV E' w' r0 v) (hw : Went s E w s0 E' w') (h : Settled s r0 s0 r s') : ∃ G, RV G w' r v ∧ Went s E w s' G w' := by
  rcases h with ⟨h1, h2, hs'⟩ | ⟨_, hr', hs'⟩
  · rw [hs']
    have hold : ∀ b, s.obj b ≠ .dead → b.val < s.n.val := fun b hb => by
      by_cases h : b.val < s.n.val
      · exact h
      · exact absurd (rel.h.old b hb) (rel.n b (by omega))
    have hnew : ∀ b, s.n.val ≤ b.val → s0.obj b ≠ .dead → w.heap.size ≤ (E'.φ b).block ∧ (E'.φ b).block < w'.heap.size := fun b hb hne => by
      refine ⟨?_, hw.rel.h.block_lt hne⟩
      rcases hw.ext.new b hne with ⟨c, hc, hce⟩ | hge
      · exfalso
        have hcv := hold c hc
        have hc0 : s0.obj c ≠ .dead := by rw [h1 c hcv]; exact hc
        have hbc : b ≠ c := fun e => by rw [e] at hb; omega
        refine hw.rel.h.inj b c hne hc0 hbc ?_
        rw [← hce, hw.ext.φ c (rel.h.old c hc)]
      · exact hge
    let G : Env := ⟨E.φ, fun k => E'.I k ∨ ∃ b, s.n.val ≤ b.val ∧ s0.obj b ≠ .dead ∧ (E'.φ b).block = k, E.D⟩
    have hDG : ∀ b, E.D b → G.D b ∧ G.φ b = E'.φ b := fun b hb => ⟨hb, (hw.ext.φ b hb).symm⟩
    have hG : Gift s.n.val s0 E' w' G := by
      refine ⟨hw.rel.h, fun b hb hD => ?_, fun k hk => .inl hk, fun b hb hne => .inr ⟨b, hb, hne, rfl⟩⟩
      rcases hw.ext.ids b hD with h3 | h3
      · exact hDG b h3
      · omega
    have hGI : ∀ k, G.I k → k < w'.heap.size := fun k hk => hk.elim (hw.rel.h.seen k) (fun ⟨b, _, hb, e⟩ => by rw [← e]; exact hw.rel.h.block_lt hb)
    have hrow : ∀ {cs : List AV} {us us0 : List Value}, RL E' w' cs us → RL E w cs us0 → RL G w' cs us := fun {cs us us0} h k => ⟨h.len, fun j c u hc hu => by
      have hj : j < us0.length := by rw [k.len]; exact (List.getElem?_eq_some_iff.mp hc).1
      exact (h.each j c u hc hu).both hDG (fun k hk => .inl hk) (k.each j c _ hc (List.getElem?_eq_getElem hj))⟩
    have hlive : ∀ b, s.obj b ≠ .dead → s0.obj b ≠ .dead ∧ E'.φ b = E.φ b := fun b hb => ⟨by rw [h1 b (hold b hb)]; exact hb, hw.ext.φ b (rel.h.old b hb)⟩
    refine ⟨G, h2.rv hG hv, ⟨⟨rel.n, ?_, ⟨fun k o hm => ⟨.inl ((rel.laid.le (hw.ext.le rel.h)).tabs k o hm).1, ((rel.laid.le (hw.ext.le rel.h)).tabs k o hm).2⟩, fun b T n hm => (rel.laid.typed b T n hm).on (fun _ h => h) (fun _ _ => rfl) hw.ext.shape⟩⟩, Nat.le_refl _, ?_⟩⟩
    · refine ⟨fun b cs hb => ?_, fun b es hb => ?_, rel.h.old, fun b c hb hc hbc => rel.h.inj b c hb hc hbc, fun b hb hI => ?_, hGI⟩
      · have hne : s.obj b ≠ .dead := by rw [hb]; intro h; cases h
        obtain ⟨c, e, us, H⟩ := hw.rel.h.cells b cs (by rw [h1 b (hold b hne)]; exact hb)
        obtain ⟨c0, e0, us0, H0⟩ := rel.h.cells b cs hb
        have hφ := (hlive b hne).2
        exact ⟨c, e, us, by show w'.heap[(E.φ b).block]? = _; rw [← hφ]; exact H.heap, hrow H.row H0.row, fun j u hu => by show c[(E.φ b).off + j]? = _; rw [← hφ]; exact H.at_ j u hu, H.one⟩
      · have hne : s.obj b ≠ .dead := by rw [hb]; intro h; cases h
        obtain ⟨ms, cl, H⟩ := hw.rel.h.map b es (by rw [h1 b (hold b hne)]; exact hb)
        obtain ⟨ms0, cl0, H0⟩ := rel.h.map b es hb
        have hφ := (hlive b hne).2
        exact ⟨ms, cl, by show w'.heap[(E.φ b).block]? = _; rw [← hφ]; exact H.heap, hrow H.keys H0.keys, hrow H.vals H0.vals, H.born⟩
      · have hb' : s.obj b ≠ .dead := hb
        rcases hI with hI | ⟨c, hc, hc0, e⟩
        · exact hw.rel.h.apart b (hlive b hb').1 (by rw [(hlive b hb').2]; exact hI)
        · have hbc : c ≠ b := fun e => by have := hold b hb'; rw [e] at hc; omega
          exact hw.rel.h.inj c b hc0 (hlive b hb').1 hbc (by rw [e, (hlive b hb').2])
    · refine ⟨fun b hb => hb, fun _ _ => rfl, fun b hb => .inl hb, fun k hk => .inl (hw.ext.I k hk), fun k hk => ?_, hw.ext.os, hw.ext.tape, hw.ext.output, hw.ext.size, hw.ext.keep, hw.ext.shape, fun b hb => .inl ⟨b, hb, rfl⟩⟩
      rcases hk with hk | ⟨b, hb, hne, e⟩
      · exact hw.ext.seen k hk
      · exact .inr (.inl (by rw [← e]; exact (hnew b hb hne).1))
  · rw [hr', hs']; exact ⟨E', hv, hw⟩
end Go.Vm
namespace Go.Vm
set_option linter.unusedVariables false
variable {P : Program}
abbrev Base := Tab (List AV → St → R)
noncomputable def noB : List AV → St → R := fun _ _ => .no
inductive Ev (P : Program) (B : Base) : Id → List AV → St → AV → St → Prop where
  | base (g : Id) (args : List AV) (s : St) (r : AV) (s' : St) (h : g.get B args s = .ok r s') : Ev P B g args s r s'
  | mk (call : CallT) (h : ∀ g a s r s', call g a s = .ok r s' → Ev P B g a s r s') (N : Nat) (g : Id) (args : List AV) (s : St) (r0 : AV) (s0 : St) (r : AV) (s' : St)
      (he : evF call N (g.get (prog P)) args s = .ok r0 s0) (hs : Settled s r0 s0 r s') (hB : g.get B args s = .no) : Ev P B g args s r s'
noncomputable def bothC (c1 c2 : CallT) : CallT := fun g a s => R.rec (c2 g a s) (fun v s => .ok v s) (c1 g a s)
theorem both_left (c1 c2 : CallT) : CallLe c1 (bothC c1 c2) := fun g a s r s' h => by unfold bothC; rw [h]
theorem both_right {c1 c2 : CallT} (h : ∀ g a s r s' r2 s2, c1 g a s = .ok r s' → c2 g a s = .ok r2 s2 → r = r2 ∧ s' = s2) : CallLe c2 (bothC c1 c2) := fun g a s r s' h2 => by
  unfold bothC
  cases h1 : c1 g a s with
  | no => exact h2
  | ok v s1 => obtain ⟨rfl, rfl⟩ := h g a s _ _ _ _ h1 h2; rfl
variable {B : Base}
theorem Ev.det {g : Id} {a : List AV} {s : St} {r : AV} {s' : St} (h : Ev P B g a s r s') : ∀ {r2 : AV} {s2 : St}, Ev P B g a s r2 s2 → r = r2 ∧ s' = s2 := by
  induction h with
  | base g args s r s' h =>
    intro r2 s2 k
    cases k with
    | base _ _ _ _ _ h2 => rw [h] at h2; exact ok_inj h2
    | mk call2 h2 N2 _ _ _ q0 t0 _ _ he2 hs2 hB2 => rw [h] at hB2; cases hB2
  | mk call h N g args s r0 s0 r s' he hs hB ih =>
    intro r2 s2 k
    cases k with
    | base _ _ _ _ _ h2 => rw [hB] at h2; cases h2
    | mk call2 h2 N2 _ _ _ q0 t0 _ _ he2 hs2 hB2 =>
      have hb : CallLe call2 (bothC call call2) := both_right fun g a s r s' r2 s2 e1 e2 => ih g a s r s' e1 (h2 g a s r2 s2 e2)
      have e1 := evF_mono (both_left call call2) (Nat.le_max_left N N2) he
      have e2 := evF_mono hb (Nat.le_max_right N N2) he2
      rw [e1] at e2
      obtain ⟨rfl, rfl⟩ := ok_inj e2
      exact hs.det hs2
open Classical in
noncomputable def CC0 (P : Program) (B : Base) : CallT := fun g a s => if h : ∃ p : AV × St, Ev P B g a s p.1 p.2 then .ok h.choose.1 h.choose.2 else .no
theorem cc_ok {g : Id} {a : List AV} {s : St} {r : AV} {s' : St} : CC0 P B g a s = .ok r s' ↔ Ev P B g a s r s' := by
  unfold CC0
  constructor
  · intro h
    split at h
    · rename_i hh
      obtain ⟨rfl, rfl⟩ := ok_inj h
      exact hh.choose_spec
    · cases h
  · intro h
    have hh : ∃ p : AV × St, Ev P B g a s p.1 p.2 := ⟨(r, s'), h⟩
    rw [dif_pos hh]
    obtain ⟨h1, h2⟩ := hh.choose_spec.det h
    rw [h1, h2]
theorem cc_sound [Lay] (hdr : ∀ call, SoundCall P call → DrawnOk P call) (hBs : SoundCall P fun g a s => g.get B a s) : SoundCall P (CC0 P B) := by
  have key : ∀ {g : Id} {a : List AV} {s : St} {r : AV} {s' : St}, Ev P B g a s r s' → (∃ fn, P.funcs[g.val]? = some fn ∧ fn.body.isNone = false ∧ fn.name ≠ "runtime.NumGoroutine") ∧
      ∀ (E : Env) (w : World) (vals : List Value), Rel s E w → RL E w a vals → Calls P g.val vals.toArray w fun e w' => ∃ E' v, e = .returned v ∧ RV E' w' r v ∧ Went s E w s' E' w' := by
    intro g a s r s' h
    induction h with
    | base g args s r s' h => exact hBs g args s r s' h
    | mk call h N g args s r0 s0 r s' he hs hB ih =>
      have hc : SoundCall P call := fun g a s r s' e => ih g a s r s' e
      obtain ⟨h1, h2⟩ := evF_sound hc hdr N he
      refine ⟨h1, fun E w vals rel hrl => Calls.mono (h2 E w vals rel hrl) ?_⟩
      rintro e w' ⟨E', v, rfl, k1, k2⟩
      obtain ⟨G, g1, g2⟩ := settled_went rel k1 k2 hs
      exact ⟨G, v, rfl, g1, g2⟩
  exact fun g a s r s' h => key (cc_ok.mp h)
theorem cc_intro {g : Id} {args : List AV} {s : St} {N : Nat} {r0 : AV} {s0 : St} {r : AV} {s' : St} (he : evF (CC0 P B) N (g.get (prog P)) args s = .ok r0 s0) (hs : Settled s r0 s0 r s') (hB : g.get B = noB) : CC0 P B g args s = .ok r s' :=
  cc_ok.mpr (.mk (CC0 P B) (fun _ _ _ _ _ h => cc_ok.mp h) N g args s r0 s0 r s' he hs (by rw [hB]; rfl))
end Go.Vm
namespace Go.Vm
set_option linter.unusedVariables false
variable {P : Program}
theorem nd {α : Sort _} {a b : α} (h : a = b) : a = b := h
noncomputable def vv (n : Nat) : Sl := Sl.ofNat (n % 256)
theorem vv_gs (m n : Nat) (x : AV) (f : Fr AV) : (vv m).get ((vv n).set x f) = if m % 256 = n % 256 then x else (vv m).get f := by
  rw [Sl.get_set]
  by_cases h : m % 256 = n % 256
  · rw [if_pos h, if_pos (by unfold vv; rw [h])]
  · rw [if_neg h, if_neg]
    intro e
    have h1 := Sl.val_ofNat (n := m % 256) (by omega)
    have h2 := Sl.val_ofNat (n := n % 256) (by omega)
    apply h
    rw [← h1, ← h2]
    exact congrArg Sl.val e
noncomputable def tt (n : Nat) : CO := .t (vv n)
noncomputable def kk (n : Int) : CO := .c (.int .i64 n)
noncomputable def oo (d : Nat) (op : COp) : CR := .mk (.d (vv d)) op .none
noncomputable def on (op : COp) : CR := .mk .none op .none
noncomputable def og (d : Nat) (op : COp) (g : Nat) (b : Bool) : CR := .mk (.d (vv d)) op (.g (vv g) b)
noncomputable def mm (d n : Nat) : CR := .mk (.d (vv d)) (.mv (tt n)) .none
noncomputable def fn (n : Nat) : Id := Id.ofNat n
inductive Hold {α : Sort _} (a : α) : Type where
  | mk
inductive Hold3 {α β γ : Sort _} (a : α) (b : β) (c : γ) : Type where
  | mk
noncomputable def onP (r : R) (K : AV → St → Prop) (h : Hold K := .mk) : Prop := R.rec False K r
noncomputable def onC (rc : RC) (n : Fr AV → St → Prop) (e : Nat → Fr AV → St → Prop) (r : Fr AV → St → Prop) : Prop := RC.rec False n e r rc
noncomputable def onB (v : AV) (K : Bool → Prop) (h : Hold K := .mk) : Prop := v.onBool False K
theorem onP_ok (v : AV) (s : St) (K : AV → St → Prop) : onP (.ok v s) K = K v s := nd rfl
theorem onB_bool (b : Bool) (K : Bool → Prop) : onB (.bool b) K = K b := nd rfl
def W (call : CallT) (c : CC) (n : Fr AV → St → Prop) (e : Nat → Fr AV → St → Prop) (r : Fr AV → St → Prop) (f : Fr AV) (s : St) (h : Hold3 n e r := .mk) : Prop := ∃ N, onC (excode call N c f s) n e r
noncomputable def Wo (call : CallT) (l : List CR) (n : Fr AV → St → Prop) (f : Fr AV) (s : St) (h : Hold n := .mk) : Prop := onC (exops call l f s) n (fun _ _ _ => False) fun _ _ => False
section
variable {call : CallT} {n : Fr AV → St → Prop} {e : Nat → Fr AV → St → Prop} {r : Fr AV → St → Prop} {f : Fr AV} {s : St}
theorem cle (call : CallT) : CallLe call call := fun _ _ _ _ _ h => h
theorem onC_ne {rc : RC} (h : onC rc n e r) : rc ≠ .no := fun hn => by rw [hn] at h; exact h
theorem onC_mono {rc : RC} {n' : Fr AV → St → Prop} {e' : Nat → Fr AV → St → Prop} {r' : Fr AV → St → Prop} (hn : ∀ f s, n f s → n' f s) (he : ∀ i f s, e i f s → e' i f s) (hr : ∀ f s, r f s → r' f s) (h : onC rc n e r) : onC rc n' e' r' := by
  cases rc with
  | no => exact h
  | nor f s => exact hn f s h
  | exit i f s => exact he i f s h
  | ret f s => exact hr f s h
theorem W.mono {c : CC} {n' : Fr AV → St → Prop} {e' : Nat → Fr AV → St → Prop} {r' : Fr AV → St → Prop} (h : W call c n e r f s) (hn : ∀ f s, n f s → n' f s) (he : ∀ i f s, e i f s → e' i f s) (hr : ∀ f s, r f s → r' f s) : W call c n' e' r' f s := by
  obtain ⟨N, h⟩ := h
  exact ⟨N, onC_mono hn he hr h⟩
theorem W_skip : W call .skip n e r f s = n f s := propext ⟨fun ⟨_, h⟩ => h, fun h => ⟨0, h⟩⟩
theorem W_exit (i : Nat) : W call (.exit i) n e r f s = e i f s := propext ⟨fun ⟨_, h⟩ => h, fun h => ⟨0, h⟩⟩
theorem W_ret : W call .ret n e r f s = r f s := propext ⟨fun ⟨_, h⟩ => h, fun h => ⟨0, h⟩⟩
theorem W_seq (a b : CC) : W call (.seq a b) n e r f s = W call a (fun f s => W call b n e r f s) e r f s := by
  apply propext
  constructor
  · rintro ⟨N, h⟩
    refine ⟨N, ?_⟩
    have h' : onC (seqK (excode call N b) (excode call N a f s)) n e r := h
    cases ha : excode call N a f s with
    | no => rw [ha] at h'; exact h'
    | nor f1 s1 => rw [ha] at h'; exact ⟨N, h'⟩
    | exit i f1 s1 => rw [ha] at h'; exact h'
    | ret f1 s1 => rw [ha] at h'; exact h'
  · rintro ⟨N, h⟩
    have hne := onC_ne h
    cases ha : excode call N a f s with
    | no => exact absurd ha hne
    | nor f1 s1 =>
      rw [ha] at h
      obtain ⟨M, hM⟩ := (show ∃ M, onC (excode call M b f1 s1) n e r from h)
      refine ⟨max N M, ?_⟩
      show onC (seqK (excode call (max N M) b) (excode call (max N M) a f s)) n e r
      rw [excode_mono (cle call) (Nat.le_max_left N M) a f s hne, ha]
      show onC (excode call (max N M) b f1 s1) n e r
      rw [excode_mono (cle call) (Nat.le_max_right N M) b f1 s1 (onC_ne hM)]; exact hM
    | exit i f1 s1 => rw [ha] at h; exact ⟨N, by show onC (seqK _ (excode call N a f s)) n e r; rw [ha]; exact h⟩
    | ret f1 s1 => rw [ha] at h; exact ⟨N, by show onC (seqK _ (excode call N a f s)) n e r; rw [ha]; exact h⟩
theorem W_block (i : Nat) (c : CC) : W call (.block i c) n e r f s = W call c n (fun j f s => if j = i then n f s else e j f s) r f s := by
  have key : ∀ rc, onC (blockK i rc) n e r = onC rc n (fun j f s => if j = i then n f s else e j f s) r := by
    intro rc
    cases rc with
    | exit j f s =>
      show onC (br (Nat.beq j i) (.nor f s) (.exit j f s)) n e r = if j = i then n f s else e j f s
      by_cases h : j = i
      · rw [if_pos h, show Nat.beq j i = true by simp [h]]; rfl
      · rw [if_neg h, show Nat.beq j i = false by cases hb : Nat.beq j i with | false => rfl | true => exact absurd (Nat.eq_of_beq_eq_true hb) h]; rfl
    | _ => rfl
  exact propext ⟨fun ⟨N, h⟩ => ⟨N, by rw [← key]; exact h⟩, fun ⟨N, h⟩ => ⟨N, by rw [← key] at h; exact h⟩⟩
theorem W_cond (c : CO) (a b : CC) : W call (.cond c a b) n e r f s = onB (ev1 f c) fun t => if t = true then W call a n e r f s else W call b n e r f s := by
  have key : ∀ N, onC (excode call N (.cond c a b) f s) n e r = onB (ev1 f c) fun t => if t = true then onC (excode call N a f s) n e r else onC (excode call N b f s) n e r := by
    intro N
    show onC ((ev1 f c).onBool .no fun t => br t (excode call N a f s) (excode call N b f s)) n e r = _
    cases ev1 f c with
    | bool t => cases t <;> rfl
    | _ => rfl
  unfold W
  apply propext
  constructor
  · rintro ⟨N, h⟩
    rw [key] at h
    revert h
    cases ev1 f c with
    | bool t => cases t <;> exact fun h => ⟨N, h⟩
    | _ => exact fun h => h
  · intro h
    simp only [key]
    revert h
    cases ev1 f c with
    | bool t => cases t <;> exact fun h => h
    | _ => exact fun h => ⟨0, h⟩
theorem W_loop (c : CC) : W call (.loop c) n e r f s = W call c (fun f s => W call (.loop c) n e r f s) e r f s := by
  apply propext
  constructor
  · rintro ⟨N, h⟩
    cases N with
    | zero => exact h.elim
    | succ N =>
      refine ⟨N + 1, ?_⟩
      have h' : onC (seqK (iter (excode call (N + 1) c) N) (excode call (N + 1) c f s)) n e r := h
      cases ha : excode call (N + 1) c f s with
      | no => rw [ha] at h'; exact h'
      | nor f1 s1 =>
        rw [ha] at h'
        refine ⟨N + 1, ?_⟩
        show onC (iter (excode call (N + 1) c) (N + 1) f1 s1) n e r
        rw [iter_eq (fun f s _ => rfl) N (N + 1) (by omega) f1 s1 (onC_ne h')]; exact h'
      | exit i f1 s1 => rw [ha] at h'; exact h'
      | ret f1 s1 => rw [ha] at h'; exact h'
  · rintro ⟨N, h⟩
    have hne := onC_ne h
    cases ha : excode call N c f s with
    | no => exact absurd ha hne
    | nor f1 s1 =>
      rw [ha] at h
      obtain ⟨M, hM⟩ := (show ∃ M, onC (excode call M (.loop c) f1 s1) n e r from h)
      refine ⟨max N M + 1, ?_⟩
      show onC (seqK (iter (excode call (max N M + 1) c) (max N M)) (excode call (max N M + 1) c f s)) n e r
      rw [excode_mono (cle call) (by omega : N ≤ max N M + 1) c f s hne, ha]
      show onC (iter (excode call (max N M + 1) c) (max N M) f1 s1) n e r
      have hM' : onC (iter (excode call M c) M f1 s1) n e r := hM
      rw [iter_eq (fun f s h => excode_mono (cle call) (by omega : M ≤ max N M + 1) c f s h) M (max N M) (by omega) f1 s1 (onC_ne hM')]; exact hM'
    | exit i f1 s1 => rw [ha] at h; exact ⟨N + 1, by show onC (seqK _ (excode call (N + 1) c f s)) n e r; rw [excode_mono (cle call) (by omega : N ≤ N + 1) c f s hne, ha]; exact h⟩
    | ret f1 s1 => rw [ha] at h; exact ⟨N + 1, by show onC (seqK _ (excode call (N + 1) c f s)) n e r; rw [excode_mono (cle call) (by omega : N ≤ N + 1) c f s hne, ha]; exact h⟩
theorem exops_form (call : CallT) (l : List CR) : ∀ (f : Fr AV) (s : St), exops call l f s = .no ∨ ∃ f' s', exops call l f s = .nor f' s' := by
  induction l with
  | nil => intro f s; exact .inr ⟨f, s, rfl⟩
  | cons o l ih =>
    intro f s
    obtain ⟨d, op, g⟩ := o
    have e : exops call (.mk d op g :: l) f s = br (wanted g f) ((exop op call f s).on .no fun v s => exops call l (putD d v f) s) (exops call l (putD d undef f) s) := rfl
    rw [e]
    cases wanted g f with
    | false => exact ih _ _
    | true =>
      cases exop op call f s with
      | no => exact .inl rfl
      | ok v s1 => exact ih _ _
theorem W_region (ops : List CR) : W call (.region ops) n e r f s = Wo call ops n f s := by
  have key : ∀ N, onC (excode call N (.region ops) f s) n e r = Wo call ops n f s := by
    intro N
    show onC (exops call ops f s) n e r = onC (exops call ops f s) n _ _
    rcases exops_form call ops f s with h | ⟨f', s', h⟩ <;> rw [h] <;> rfl
  unfold W
  exact propext ⟨fun ⟨N, h⟩ => by rw [key] at h; exact h, fun h => ⟨0, by rw [key]; exact h⟩⟩
theorem Wo_nil : Wo call [] n f s = n f s := nd rfl
theorem onC_on (q : R) (k : AV → St → RC) : onC (q.on .no k) n e r = onP q fun v s => onC (k v s) n e r := by cases q <;> rfl
theorem Wo_oo (d : Nat) (op : COp) (l : List CR) : Wo call (oo d op :: l) n f s = onP (exop op call f s) fun v s => Wo call l n ((vv d).set v f) s := onC_on _ _
theorem Wo_on (op : COp) (l : List CR) : Wo call (on op :: l) n f s = onP (exop op call f s) fun v s => Wo call l n f s := onC_on _ _
theorem Wo_mm (d m : Nat) (l : List CR) : Wo call (mm d m :: l) n f s = Wo call l n ((vv d).set ((vv m).get f) f) s := nd rfl
noncomputable def onG (v : AV) (b : Bool) (A B : Prop) (h : Hold3 A B A := .mk) : Prop := br (v.onBool false fun t => br b t (br t false true)) A B
theorem onG_bool (t b : Bool) (A B : Prop) : onG (.bool t) b A B = if t = b then A else B := by cases t <;> cases b <;> rfl
theorem onG_undef (b : Bool) (A B : Prop) : onG Vm.undef b A B = B := nd rfl
theorem Wo_og (d : Nat) (op : COp) (g : Nat) (b : Bool) (l : List CR) : Wo call (og d op g b :: l) n f s = onG ((vv g).get f) b (onP (exop op call f s) fun v s => Wo call l n ((vv d).set v f) s) (Wo call l n ((vv d).set undef f) s) := by
  show onC (br (((vv g).get f).onBool false fun t => br b t (br t false true)) ((exop op call f s).on .no fun v s => exops call l ((vv d).set v f) s) (exops call l ((vv d).set undef f) s)) n _ _ = br _ _ _
  cases (((vv g).get f).onBool false fun t => br b t (br t false true)) with
  | true => exact onC_on _ _
  | false => rfl
def WF (call : CallT) (c : CF) (args : List AV) (s : St) (K : AV → St → Prop) : Prop := ∃ N, onP (evF call N c args s) K
noncomputable def Rs (K : AV → St → Prop) (res : List Res) (f : Fr AV) (s : St) (h : Hold K := .mk) : Prop := onP (ress f s res fun l => .ok (pack l) s) K
theorem WF_mk {nt : Nat} {res : List Res} {body : CC} {args : List AV} {K : AV → St → Prop} (h : args.length ≤ nt) (hw : W call body (fun f s => Rs K res f s) (fun _ _ _ => False) (fun f s => Rs K res f s) (frame0 args) s) : WF call (.mk nt res body) args s K := by
  obtain ⟨N, hN⟩ := hw
  refine ⟨N, ?_⟩
  show onP (br (Nat.ble (ln args) nt) (fin res (excode call N body (frame0 args) s)) .no) K
  rw [show Nat.ble (ln args) nt = true by rw [ln_eq, Nat.ble_eq]; exact h]
  show onP (fin res (excode call N body (frame0 args) s)) K
  cases hx : excode call N body (frame0 args) s with
  | no => rw [hx] at hN; exact hN
  | nor f s => rw [hx] at hN; exact hN
  | exit i f s => rw [hx] at hN; exact hN
  | ret f s => rw [hx] at hN; exact hN
theorem cc_of {B : Base} {g : Id} {c : CF} {args : List AV} {r : AV} {s' : St} (hg : g.get (prog P) = c ∧ g.get B = noB) (h : WF (CC0 P B) c args s fun r0 s0 => Settled s r0 s0 r s') : CC0 P B g args s = .ok r s' := by
  obtain ⟨N, hN⟩ := h
  cases he : evF (CC0 P B) N c args s with
  | no => rw [he] at hN; exact hN.elim
  | ok r0 s0 => rw [he] at hN; exact cc_intro (by rw [hg.1]; exact he) hN hg.2
end
end Go.Vm
