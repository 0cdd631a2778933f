/- The abstract machine is sound: what an operation looks at; two memories that are apart; the statements whose order is open, step by step. No condition. -/
import Derived.Test.YtjnejkganejdbaaVmU
namespace Go.Vm
set_option linter.unusedVariables false
variable {P : Program}
/-! ### What an operation looks at -/
section
variable {f f' : Fr AV}
theorem ev1_congr {x : CO} (h : ∀ t ∈ coS x, t.get f = t.get f') : ev1 f x = ev1 f' x := by
  cases x with
  | t s => exact h s (List.mem_singleton.mpr rfl)
  | c v => rfl
theorem evs_congr {l : List CO} (h : ∀ t ∈ cosS l, t.get f = t.get f') : evs f l = evs f' l := by
  induction l with
  | nil => rfl
  | cons x l ih =>
    show ev1 f x :: evs f l = ev1 f' x :: evs f' l
    rw [ev1_congr (fun t ht => h t (List.mem_append_left _ ht)), ih (fun t ht => h t (List.mem_append_right _ ht))]
theorem evo_congr {x : Option CO} (h : ∀ t ∈ cooS x, t.get f = t.get f') : evo f x = evo f' x := by
  cases x with
  | none => rfl
  | some x => show some (ev1 f x) = some (ev1 f' x); rw [ev1_congr h]
theorem fill_congr {ps : List Part} (h : ∀ t ∈ partsS ps, t.get f = t.get f') (z : List AV) (k : List AV → R) : fill f ps z k = fill f' ps z k := by
  induction ps generalizing z with
  | nil => rfl
  | cons p ps ih =>
    obtain ⟨o, n, x⟩ := p
    have h1 : ev1 f x = ev1 f' x := ev1_congr (fun t ht => h t (List.mem_append_left _ ht))
    show (ev1 f x).lay (fun l => br (Nat.beq (ln l) n) (br (Nat.ble (Nat.add o n) (ln z)) (fill f ps (splice o l z) k) .no) .no) = (ev1 f' x).lay (fun l => br (Nat.beq (ln l) n) (br (Nat.ble (Nat.add o n) (ln z)) (fill f' ps (splice o l z) k) .no) .no)
    rw [h1]
    congr 1
    funext l
    rw [ih (fun t ht => h t (List.mem_append_right _ ht))]
theorem mm_congr {mx : Bool} {s : St} {rs : List CO} (h : ∀ t ∈ cosS rs, t.get f = t.get f') (v : AV) :
    List.rec (motive := fun _ => AV → R) (fun v => .ok v s) (fun y _ ih v => v.onInt .no fun j a => (ev1 f y).onInt .no fun k b => ih (.int j (best mx a b))) rs v =
    List.rec (motive := fun _ => AV → R) (fun v => .ok v s) (fun y _ ih v => v.onInt .no fun j a => (ev1 f' y).onInt .no fun k b => ih (.int j (best mx a b))) rs v := by
  induction rs generalizing v with
  | nil => rfl
  | cons y rs ih =>
    have h1 : ev1 f y = ev1 f' y := ev1_congr (fun t ht => h t (List.mem_append_left _ ht))
    have ih' := ih (fun t ht => h t (List.mem_append_right _ ht))
    simp only [h1]
    congr 1
    funext j a
    congr 1
    funext k b
    exact ih' _
theorem exop_congr {co : COp} (h : ∀ t ∈ co.slots, t.get f = t.get f') (call : CallT) (s : St) : exop co call f s = exop co call f' s := by
  have l : ∀ {a b : List Sl} {t : Sl}, t ∈ a → t ∈ a ++ b := fun h => List.mem_append_left _ h
  have r : ∀ {a b : List Sl} {t : Sl}, t ∈ b → t ∈ a ++ b := fun h => List.mem_append_right _ h
  cases co with
  | mv x => show opMv x call f s = opMv x call f' s; unfold opMv; rw [ev1_congr h]
  | mvs x => show opMvs x call f s = opMvs x call f' s; unfold opMvs; rw [ev1_congr h]
  | pick a b c => show opPick a b c call f s = opPick a b c call f' s; unfold opPick; rw [ev1_congr (x := a) fun t ht => h t (l ht), ev1_congr (x := b) fun t ht => h t (r (l ht)), ev1_congr (x := c) fun t ht => h t (r (r ht))]
  | box x => show opBox x call f s = opBox x call f' s; unfold opBox; rw [ev1_congr h]
  | alloc z => rfl
  | build z ps => show opBuild z ps call f s = opBuild z ps call f' s; unfold opBuild; exact fill_congr h _ _
  | blit n z ps => show opBlit n z ps call f s = opBlit n z ps call f' s; unfold opBlit; exact fill_congr h _ _
  | load g sz x => show opLoad g sz x call f s = opLoad g sz x call f' s; unfold opLoad; rw [ev1_congr h]
  | store sz x y => show opStore sz x y call f s = opStore sz x y call f' s; unfold opStore; rw [ev1_congr (x := x) fun t ht => h t (l ht), ev1_congr (x := y) fun t ht => h t (r ht)]
  | nilck x => show opNilck x call f s = opNilck x call f' s; unfold opNilck; rw [ev1_congr h]
  | bin op x y => show opBin op x y call f s = opBin op x y call f' s; unfold opBin; rw [ev1_congr (x := x) fun t ht => h t (l ht), ev1_congr (x := y) fun t ht => h t (r ht)]
  | beq n x y => show opBeq n x y call f s = opBeq n x y call f' s; unfold opBeq; rw [ev1_congr (x := x) fun t ht => h t (l ht), ev1_congr (x := y) fun t ht => h t (r ht)]
  | nileq n k x y => show opNeq n k x y call f s = opNeq n k x y call f' s; unfold opNeq; rw [ev1_congr (x := x) fun t ht => h t (l ht), ev1_congr (x := y) fun t ht => h t (r ht)]
  | neg x => show opNeg x call f s = opNeg x call f' s; unfold opNeg; rw [ev1_congr h]
  | not x => show opNot x call f s = opNot x call f' s; unfold opNot; rw [ev1_congr h]
  | conv k x => show opConv k x call f s = opConv k x call f' s; unfold opConv; rw [ev1_congr h]
  | tobytes x => show opToBytes x call f s = opToBytes x call f' s; unfold opToBytes; rw [ev1_congr h]
  | tostr x => show opToStr x call f s = opToStr x call f' s; unfold opToStr; rw [ev1_congr h]
  | mkif t x => show opMkif t x call f s = opMkif t x call f' s; unfold opMkif; rw [ev1_congr h]
  | mkfn g a b => show opMkfn g a b call f s = opMkfn g a b call f' s; unfold opMkfn; rw [evs_congr (l := a) fun t ht => h t (l ht), evs_congr (l := b) fun t ht => h t (r ht)]
  | mkmap => rfl
  | mksl n z x y => show opMksl n z x y call f s = opMksl n z x y call f' s; unfold opMksl; rw [ev1_congr (x := x) fun t ht => h t (l ht), ev1_congr (x := y) fun t ht => h t (r ht)]
  | slice sz x a b c =>
    show opSlice sz x a b c call f s = opSlice sz x a b c call f' s
    unfold opSlice
    rw [ev1_congr (x := x) fun t ht => h t (l ht), evo_congr (x := a) fun t ht => h t (r (l ht)), evo_congr (x := b) fun t ht => h t (r (r (l ht))), evo_congr (x := c) fun t ht => h t (r (r (r ht)))]
  | sslice x a b =>
    show opSslice x a b call f s = opSslice x a b call f' s
    unfold opSslice
    rw [ev1_congr (x := x) fun t ht => h t (l ht), evo_congr (x := a) fun t ht => h t (r (l ht)), evo_congr (x := b) fun t ht => h t (r (r ht))]
  | faddr o x => show opFaddr o x call f s = opFaddr o x call f' s; unfold opFaddr; rw [ev1_congr h]
  | field g o sz x => show opField g o sz x call f s = opField g o sz x call f' s; unfold opField; rw [ev1_congr h]
  | iaddr sz x y => show opIaddr sz x y call f s = opIaddr sz x y call f' s; unfold opIaddr; rw [ev1_congr (x := x) fun t ht => h t (l ht), ev1_congr (x := y) fun t ht => h t (r ht)]
  | sidx x y => show opSidx x y call f s = opSidx x y call f' s; unfold opSidx; rw [ev1_congr (x := x) fun t ht => h t (l ht), ev1_congr (x := y) fun t ht => h t (r ht)]
  | aidx g n sz x y => show opAidx g n sz x y call f s = opAidx g n sz x y call f' s; unfold opAidx; rw [ev1_congr (x := x) fun t ht => h t (l ht), ev1_congr (x := y) fun t ht => h t (r ht)]
  | lookup b z x y ok => show opLookup b z x y ok call f s = opLookup b z x y ok call f' s; unfold opLookup; rw [ev1_congr (x := x) fun t ht => h t (l ht), ev1_congr (x := y) fun t ht => h t (r ht)]
  | mupd b x y z => show opMupd b x y z call f s = opMupd b x y z call f' s; unfold opMupd; rw [ev1_congr (x := x) fun t ht => h t (l ht), ev1_congr (x := y) fun t ht => h t (r (l ht)), ev1_congr (x := z) fun t ht => h t (r (r ht))]
  | ext x i => show opExt x i call f s = opExt x i call f' s; unfold opExt; rw [ev1_congr h]
  | callf g as => show opCallf g as call f s = opCallf g as call f' s; unfold opCallf; rw [evs_congr h]
  | callv g as => show opCallv g as call f s = opCallv g as call f' s; unfold opCallv; rw [ev1_congr (x := g) fun t ht => h t (l ht), evs_congr (l := as) fun t ht => h t (r ht)]
  | lens x => show opLens x call f s = opLens x call f' s; unfold opLens; rw [ev1_congr h]
  | lenm x => show opLenm x call f s = opLenm x call f' s; unfold opLenm; rw [ev1_congr h]
  | len x => show opLen x call f s = opLen x call f' s; unfold opLen; rw [ev1_congr h]
  | cap x => show opCap x call f s = opCap x call f' s; unfold opCap; rw [ev1_congr h]
  | app sz n x y => show opApp sz n x y call f s = opApp sz n x y call f' s; unfold opApp; rw [ev1_congr (x := x) fun t ht => h t (l ht), ev1_congr (x := y) fun t ht => h t (r ht)]
  | mm mx x rs =>
    show opMm mx x rs call f s = opMm mx x rs call f' s
    unfold opMm
    rw [ev1_congr (x := x) fun t ht => h t (l ht)]
    exact mm_congr (fun t ht => h t (r ht)) _
theorem wanted_congr {g : CG} (h : ∀ t, (∃ b, g = .g t b) → t.get f = t.get f') : wanted g f = wanted g f' := by
  cases g with
  | none => rfl
  | g s b => show (s.get f).onBool false _ = (s.get f').onBool false _; rw [h s ⟨b, rfl⟩]
end
/-- An operation that makes a block makes that one block. -/
theorem alloc_one {call : CallT} {f : Fr AV} {s s' : St} {r : AV} {co : COp} (hk : co.kind = .alloc) (h : exop co call f s = .ok r s') : s'.obj s.n ≠ .dead ∧ ∀ b, b ≠ s.n → s'.obj b = s.obj b := by
  have key : ∀ {o : AO} {k : Id → St → R}, o ≠ .dead → (∀ n t, ∃ v, k n t = .ok v t) → s.alloc o k = .ok r s' → s'.obj s.n ≠ .dead ∧ ∀ b, b ≠ s.n → s'.obj b = s.obj b := by
    intro o k ho hk h
    obtain ⟨s1, _, h2, h3⟩ := alloc_ok h
    obtain ⟨v, hv⟩ := hk s.n s1
    rw [hv] at h3
    obtain ⟨rfl, rfl⟩ := ok_inj h3
    exact ⟨by rw [h2, if_pos rfl]; exact ho, fun b hb => by rw [h2, if_neg hb]⟩
  have fillk : ∀ {ps : List Part} {z : List AV} {k : List AV → R}, (∀ l, k l = .ok r s' → s'.obj s.n ≠ .dead ∧ ∀ b, b ≠ s.n → s'.obj b = s.obj b) → fill f ps z k = .ok r s' → s'.obj s.n ≠ .dead ∧ ∀ b, b ≠ s.n → s'.obj b = s.obj b := by
    intro ps
    induction ps with
    | nil => intro z k hk h; exact hk z h
    | cons p ps ih =>
      obtain ⟨o, n, x⟩ := p
      intro z k hk h
      obtain ⟨m, _, _, h1⟩ := lay_ok (v := ev1 f x) (k := fun m => br (Nat.beq (ln m) n) (br (Nat.ble (Nat.add o n) (ln z)) (fill f ps (splice o m z) k) .no) .no) h
      obtain ⟨_, h2⟩ := br_ok h1
      obtain ⟨_, h3⟩ := br_ok h2
      exact ih hk h3
  cases co <;> first | (cases hk; done) | skip
  case box x =>
    obtain ⟨l, _, _, h1⟩ := lay_ok (v := ev1 f x) (k := fun l => s.alloc (.cells l) fun b s => .ok (.ptr b 0) s) h
    exact key (o := .cells l) (fun h => by cases h) (fun n t => ⟨.ptr n 0, rfl⟩) h1
  case alloc z => exact key (o := .cells z) (fun h => by cases h) (fun n t => ⟨.ptr n 0, rfl⟩) h
  case blit len z ps => exact fillk (k := fun cs => s.alloc (.cells cs) fun b s => .ok (.sl b 0 len len 0) s) (fun l h1 => key (o := .cells l) (fun h => by cases h) (fun n t => ⟨.sl n 0 len len 0, rfl⟩) h1) h
  case mkmap => exact key (o := .map []) (fun h => by cases h) (fun n t => ⟨.map n, rfl⟩) h
  case mksl bytes z l c =>
    obtain ⟨_, _, _, _, h1⟩ := idx_ok (v := ev1 f l) h
    obtain ⟨_, _, _, _, h2⟩ := idx_ok (v := ev1 f c) h1
    obtain ⟨_, h3⟩ := br_ok h2
    obtain ⟨_, h4⟩ := br_ok h3
    exact key (fun h => by cases h) (fun n t => ⟨_, rfl⟩) h4

/-! ### Two memories apart -/
/-- What an operation was not told of stays, beside what it has made. -/
theorem merge {o o1 o1' o' : Id → AO} {E E' : Env} {w w' : World} {n n' : Nat} (h : RelH o E w) (hk : ∀ b, o1 b = .dead ∨ o1 b = o b) (h1 : RelH o1' E' w') (he : ExtH n n' o1 E w o1' E' w')
    (hx : ∀ b, o b ≠ .dead → o1 b = .dead → o' b = o b) (hy : ∀ b, (o b = .dead ∨ o1 b ≠ .dead) → o' b = o1' b) : RelH o' E' w' ∧ ExtH n n' o E w o' E' w' ∧ ∀ b, o b ≠ .dead → o1 b = .dead → o1' b = .dead := by
  have h0 : RelH o1 E w := h.kill hk
  have hle := he.le h0
  have up : ∀ b, o1 b ≠ .dead → o b ≠ .dead := fun b hb => by rw [← (hk b).resolve_left hb]; exact hb
  have hdead : ∀ b, o b ≠ .dead → o1 b = .dead → o1' b = .dead := by
    intro b hb hb1
    by_cases hd : o1' b = .dead
    · exact hd
    · exfalso
      have hφ := he.φ b (h.old b hb)
      rcases he.new b hd with ⟨c, hc, e⟩ | hge
      · rw [hφ] at e
        exact h.inj c b (up c hc) hb (fun e' => hc (by rw [e']; exact hb1)) e
      · rw [hφ] at hge; have := h.block_lt hb; omega
  have stay : ∀ b, o b ≠ .dead → o1 b = .dead → w'.heap[(E.φ b).block]? = w.heap[(E.φ b).block]? := fun b hb hb1 =>
    he.keep _ (h.block_lt hb) (fun c hc e => h.inj c b (up c hc) hb (fun e' => hc (by rw [e']; exact hb1)) e)
  -- what is there: of the one, or of the other
  have dec : ∀ b, o' b ≠ .dead → (o b ≠ .dead ∧ o1 b = .dead ∧ o' b = o b) ∨ (o' b = o1' b ∧ o1' b ≠ .dead ∧ (o b = .dead ∨ o1 b ≠ .dead)) := by
    intro b hb
    by_cases h2 : o b ≠ .dead ∧ o1 b = .dead
    · exact .inl ⟨h2.1, h2.2, hx b h2.1 h2.2⟩
    · have h3 : o b = .dead ∨ o1 b ≠ .dead := by
        by_cases h4 : o b = .dead
        · exact .inl h4
        · exact .inr (fun h5 => h2 ⟨h4, h5⟩)
      have := hy b h3
      exact .inr ⟨this, by rw [← this]; exact hb, h3⟩
  have cross : ∀ b c, o b ≠ .dead → o1 b = .dead → o1' c ≠ .dead → b ≠ c → (E'.φ b).block ≠ (E'.φ c).block := by
    intro b c hb hb1 hc hbc e
    rw [he.φ b (h.old b hb)] at e
    rcases he.new c hc with ⟨d, hd, e2⟩ | hge
    · exact h.inj d b (up d hd) hb (fun e' => hd (by rw [e']; exact hb1)) (e2.trans e.symm)
    · have := h.block_lt hb; omega
  refine ⟨⟨?_, ?_, ?_, ?_, ?_, h1.seen⟩, { he with seen := fun k hk => (he.seen k hk).imp id (Or.imp id fun ⟨b, hb, e⟩ => ⟨b, up b hb, e⟩), keep := fun k hk' hb => he.keep k hk' (fun b hb1 => hb b (up b hb1)), new := ?_ }, hdead⟩
  · intro b cs hb
    rcases dec b (by rw [hb]; intro h; cases h) with ⟨g1, g2, g3⟩ | ⟨g1, g2, _⟩
    · obtain ⟨c, e, us, H⟩ := h.cells b cs (by rw [← g3]; exact hb)
      have hφ := he.φ b (h.old b g1)
      exact ⟨c, e, us, by rw [hφ, stay b g1 g2]; exact H.heap, H.row.mono hle, fun j u hu => by rw [hφ]; exact H.at_ j u hu, H.one⟩
    · exact h1.cells b cs (by rw [← g1]; exact hb)
  · intro b es hb
    rcases dec b (by rw [hb]; intro h; cases h) with ⟨g1, g2, g3⟩ | ⟨g1, g2, _⟩
    · obtain ⟨ms, cl, H⟩ := h.map b es (by rw [← g3]; exact hb)
      have hφ := he.φ b (h.old b g1)
      exact ⟨ms, cl, by rw [hφ, stay b g1 g2]; exact H.heap, H.keys.mono hle, H.vals.mono hle, H.born⟩
    · exact h1.map b es (by rw [← g1]; exact hb)
  · intro b hb
    rcases dec b hb with ⟨g1, _, _⟩ | ⟨_, g2, _⟩
    · exact he.D b (h.old b g1)
    · exact h1.old b g2
  · intro b c hb hc hbc
    rcases dec b hb with ⟨g1, g2, _⟩ | ⟨_, g2, _⟩ <;> rcases dec c hc with ⟨k1, k2, _⟩ | ⟨_, k2, _⟩
    · rw [he.φ b (h.old b g1), he.φ c (h.old c k1)]; exact h.inj b c g1 k1 hbc
    · exact cross b c g1 g2 k2 hbc
    · exact fun e => cross c b k1 k2 g2 (fun h => hbc h.symm) e.symm
    · exact h1.inj b c g2 k2 hbc
  · intro b hb
    rcases dec b hb with ⟨g1, g2, _⟩ | ⟨_, g2, _⟩
    · rw [he.φ b (h.old b g1)]
      intro hi
      rcases he.seen _ hi with h2 | h2 | ⟨c, hc, e⟩
      · exact h.apart b g1 h2
      · have := h.block_lt g1; omega
      · exact h.inj c b (up c hc) g1 (fun e' => hc (by rw [e']; exact g2)) e
    · exact h1.apart b g2
  · intro b hb
    rcases dec b hb with ⟨g1, g2, _⟩ | ⟨_, g2, _⟩
    · exact .inl ⟨b, g1, by rw [he.φ b (h.old b g1)]⟩
    · exact (he.new b g2).imp (fun ⟨c, hc, e⟩ => ⟨c, up c hc, e⟩) id
end Go.Vm
