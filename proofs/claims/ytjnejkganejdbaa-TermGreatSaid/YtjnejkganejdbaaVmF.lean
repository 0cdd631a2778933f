/- The abstract machine is sound, operation by operation: what it computes, the model does. No condition. -/
import Derived.Test.YtjnejkganejdbaaVmE
import Derived.WalkKit
namespace Go.Vm
set_option linter.unusedVariables false
variable {P : Program}

/-! ### Operands -/
theorem valAt1_rv {v : Value} {c : AV} (h : valAt1 v = some c) (E : Env) (w : World) : RV E w c v ∧ c.one = true := by
  unfold valAt1 at h
  split at h <;> first | (cases h; refine ⟨?_, rfl⟩; constructor; done) | (cases h; exact ⟨.str _ _ rfl, rfl⟩) | cases h
theorem valAt1s_rl {vs : List Value} {cs : List AV} (h : vs.mapM valAt1 = some cs) (E : Env) (w : World) : RL E w cs vs ∧ ∀ c ∈ cs, c.one = true := by
  induction vs generalizing cs with
  | nil => simp at h; subst h; exact ⟨RL.nil _ _, fun c hc => by simp at hc⟩
  | cons v vs ih =>
    simp only [List.mapM_cons, Option.bind_eq_bind, Option.bind_eq_some_iff, Option.pure_def, Option.some.injEq] at h
    obtain ⟨c, hc, ds, hd, rfl⟩ := h
    obtain ⟨h1, h2⟩ := valAt1_rv hc E w
    obtain ⟨h3, h4⟩ := ih hd
    exact ⟨RL.cons h1 h3, fun a ha => by rcases List.mem_cons.mp ha with rfl | ha <;> first | exact h2 | exact h4 a ha⟩
theorem valAt_rv {v : Value} {c : AV} (h : valAt v = some c) (E : Env) (w : World) : RV E w c v := by
  cases v with
  | agg cs =>
    simp only [valAt, Option.map_eq_some_iff] at h
    obtain ⟨l, hl, rfl⟩ := h
    obtain ⟨h1, h2⟩ := valAt1s_rl hl E w
    have := RV.agg (E := E) (w := w) l cs.toList h1.len h1.each h2
    simpa using this
  | _ =>
    simp only [valAt] at h
    exact (valAt1_rv h E w).1
theorem cod_rv {x : Operand} {c : CO} (h : cod x = some c) {E : Env} {w : World} {nt : Nat} {f : Fr AV} {a : Act} (r : RF E w nt f a) : RV E w (ev1 f c) (a.eval x) := by
  cases x with
  | tmp t =>
    simp only [cod] at h
    split at h
    · cases h; exact r.slot t (by assumption)
    · cases h
  | const v =>
    simp only [cod, Option.map_eq_some_iff] at h
    obtain ⟨c, hc, rfl⟩ := h
    exact valAt_rv hc E w
  | global g => cases h
  | func g =>
    simp only [cod] at h
    split at h
    · rename_i hg
      cases h
      have := RV.fn (E := E) (w := w) (.ofNat g) [] [] [] [] rfl (fun j c u h => by simp at h) rfl (fun j c u h => by simp at h)
      rw [Id.val_ofNat hg] at this
      exact this
    · cases h
theorem cods_rl {xs : List Operand} {cs : List CO} (h : xs.mapM cod = some cs) {E : Env} {w : World} {nt : Nat} {f : Fr AV} {a : Act} (r : RF E w nt f a) : RL E w (evs f cs) (xs.map a.eval) := by
  induction xs generalizing cs with
  | nil => simp at h; subst h; exact RL.nil _ _
  | cons x xs ih =>
    simp only [List.mapM_cons, Option.bind_eq_bind, Option.bind_eq_some_iff, Option.pure_def, Option.some.injEq] at h
    obtain ⟨c, hc, ds, hd, rfl⟩ := h
    exact RL.cons (cod_rv hc r) (ih hd)

/-! ### What an operation comes to -/
/-- The model does it: a value, a world that the state fits; nothing else has turned. -/
def Out (P : Program) (m : Sem Next) (n n' : Nat) (o : Id → AO) (E : Env) (w : World) (r : AV) (o' : Id → AO) : Prop :=
  ∃ E' w' v, (m.run P w = .ok (.value v) w' ∨ (m.run P w = .ok .skip w' ∧ v = Go.undef)) ∧ RelH o' E' w' ∧ RV E' w' r v ∧ ExtH n n' o E w o' E' w'
theorem Out.same {m : Sem Next} {n n' : Nat} {o : Id → AO} {E : Env} {w : World} {r : AV} {v : Value} (h : m.run P w = .ok (.value v) w) (hr : RelH o E w) (hv : RV E w r v) : Out P m n n' o E w r o :=
  ⟨E, w, v, .inl h, hr, hv, .refl⟩
/-- A block of cells is made. -/
theorem Out.alloc {m : Sem Next} {s s' : St} {E : Env} {w : World} {r : AV} {v : Value} {cs : List AV} {us more : List Value} {e : TypeId}
    (h : m.run P w = .ok (.value v) (w.alloc (.cells (us ++ more).toArray e))) (hr : RelH s.obj E w) (hf : ¬ E.D s.n) (hs' : ∀ c, s'.obj c = if c = s.n then .cells cs else s.obj c)
    (hrow : RL E w cs us) (h1 : ∀ c ∈ cs, c.one = true)
    (hv : ∀ E' w', Le E w E' w' → E'.D s.n → E'.φ s.n = ⟨w.heap.size, 0, none⟩ → RV E' w' r v) : Out P m s.n.val (s.n.val + 1) s.obj E w r s'.obj := by
  let E' : Env := ⟨fun b => if b = s.n then ⟨w.heap.size, 0, none⟩ else E.φ b, E.I, fun b => E.D b ∨ b = s.n⟩
  let w' := w.alloc (.cells (us ++ more).toArray e)
  have hφ : ∀ b, E.D b → E'.φ b = E.φ b := fun b hb => if_neg (fun h' : b = s.n => hf (by rw [← h']; exact hb))
  have hφn : E'.φ s.n = ⟨w.heap.size, 0, none⟩ := if_pos rfl
  have hold : ∀ k, k < w.heap.size → w'.heap[k]? = w.heap[k]? := fun k hk => by
    show (w.heap.push _)[k]? = _; rw [Array.getElem?_push, if_neg (by omega)]
  have hsz : w.heap.size ≤ w'.heap.size := by show _ ≤ (w.heap.push _).size; rw [Array.size_push]; omega
  have hnew : w'.heap[w.heap.size]? = some (.cells (us ++ more).toArray e (0, 0)) := by
    show (w.heap.push _)[w.heap.size]? = _; simp
  have hlive : ∀ b, s'.obj b ≠ .dead → b = s.n ∨ (b ≠ s.n ∧ s.obj b ≠ .dead) := fun b hb => by
    rw [hs'] at hb
    by_cases hbn : b = s.n
    · exact .inl hbn
    · rw [if_neg hbn] at hb; exact .inr ⟨hbn, hb⟩
  have hblk : ∀ b, s.obj b ≠ .dead → (E.φ b).block < w.heap.size := fun b hb => by
    cases ho : s.obj b with
    | dead => exact absurd ho hb
    | cells cs => obtain ⟨c, e, us, H⟩ := hr.cells b cs ho; exact (Array.getElem?_eq_some_iff.mp H.heap).1
    | map es => obtain ⟨ms, cl, H⟩ := hr.map b es ho; exact (Array.getElem?_eq_some_iff.mp H.heap).1
  have hle : Le E w E' w' := ⟨fun b hb => .inl hb, hφ, fun _ hk => hk, fun k hk => hold k (hr.seen k hk), .of_old hold⟩
  refine ⟨E', w', v, .inl h, ⟨?_, ?_, ?_, ?_, ?_, ?_⟩, hv E' w' hle (.inr rfl) hφn, ⟨fun b hb => .inl hb, hφ, ?_, fun _ hk => hk, fun _ hk => .inl hk, rfl, rfl, rfl, hsz, fun k hk _ => hold k hk, .of_old hold, ?_⟩⟩
  · intro b ds hb
    rw [hs'] at hb
    by_cases hbn : b = s.n
    · rw [if_pos hbn] at hb
      cases hb; subst hbn
      refine ⟨(us ++ more).toArray, e, us, ?_, hrow.mono hle, fun j u hu => ?_, h1⟩
      · rw [hφn]; exact hnew
      · rw [hφn]
        simp only [Nat.zero_add, List.getElem?_toArray]
        rw [List.getElem?_append_left (List.getElem?_eq_some_iff.mp hu).1]; exact hu
    · rw [if_neg hbn] at hb
      obtain ⟨c, e, us, H⟩ := hr.cells b ds hb
      have hD := hr.old b (by rw [hb]; intro h; cases h)
      refine ⟨c, e, us, ?_, H.row.mono hle, fun j u hu => ?_, H.one⟩
      · rw [hφ b hD, hold _ (hblk b (by rw [hb]; intro h; cases h))]; exact H.heap
      · rw [hφ b hD]; exact H.at_ j u hu
  · intro b es hb
    rw [hs'] at hb
    by_cases hbn : b = s.n
    · rw [if_pos hbn] at hb; cases hb
    · rw [if_neg hbn] at hb
      obtain ⟨ms, cl, H⟩ := hr.map b es hb
      have hD := hr.old b (by rw [hb]; intro h; cases h)
      exact ⟨ms, cl, by rw [hφ b hD, hold _ (hblk b (by rw [hb]; intro h; cases h))]; exact H.heap, H.keys.mono hle, H.vals.mono hle, H.born⟩
  · intro b hb
    rcases hlive b hb with rfl | ⟨_, hb⟩
    · exact .inr rfl
    · exact .inl (hr.old b hb)
  · intro b c hb hc hbc
    rcases hlive b hb with rfl | ⟨hbn, hb⟩ <;> rcases hlive c hc with rfl | ⟨hcn, hc⟩
    · exact absurd rfl hbc
    · rw [hφn, hφ c (hr.old c hc)]; have := hblk c hc; simp; omega
    · rw [hφn, hφ b (hr.old b hb)]; have := hblk b hb; simp; omega
    · rw [hφ b (hr.old b hb), hφ c (hr.old c hc)]; exact hr.inj b c hb hc hbc
  · intro b hb
    rcases hlive b hb with rfl | ⟨_, hb⟩
    · rw [hφn]; intro hI; have := hr.seen _ hI; simp at this
    · rw [hφ b (hr.old b hb)]; exact hr.apart b hb
  · intro k hk; exact Nat.lt_of_lt_of_le (hr.seen k hk) hsz
  · rintro b (hb | rfl)
    · exact .inl hb
    · exact .inr ⟨Nat.le_refl _, Nat.lt_succ_self _⟩
  · intro b hb
    rcases hlive b hb with rfl | ⟨_, hb⟩
    · rw [hφn]; exact .inr (Nat.le_refl _)
    · rw [hφ b (hr.old b hb)]; exact .inl ⟨b, hb, rfl⟩
end Go.Vm
