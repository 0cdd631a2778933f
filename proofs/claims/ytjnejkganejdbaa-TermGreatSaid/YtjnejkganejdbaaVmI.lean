/- The abstract machine is sound: cuts, lookups, lengths. No condition. -/
import Derived.Test.YtjnejkganejdbaaVmH
namespace Go.Vm
set_option linter.unusedVariables false
variable {P : Program}
section
variable {E : Env} {w : World} {nt : Nat} {f : Fr AV} {a : Act} {s s' : St} {r : AV} {call : CallT} {n n' : Nat} {o : Oper} {x y z : Operand} {cx cy cz : CO}

/-! ### Cuts -/
/-- A bound as the model has it. -/
def BV (x : Option Value) (y d m : Nat) : Prop := (x = none ∧ m = d) ∨ ∃ j : IntKind, x = some (.int j (m : Int)) ∧ m ≤ y
theorem codo_bv {x : Option Operand} {c : Option CO} (h : codo x = some c) (rf : RF E w nt f a) {y d : Nat} {k : Nat → R} (hk : bnd (evo f c) y d k = .ok r s') : ∃ m, k m = .ok r s' ∧ (BV (x.map a.eval) y d m) := by
  cases x with
  | none =>
    cases h
    rcases bnd_ok hk with ⟨_, h⟩ | ⟨j, m, h, _⟩
    · exact ⟨d, h, .inl ⟨rfl, rfl⟩⟩
    · cases h
  | some x =>
    simp only [codo, Option.map_eq_some_iff] at h
    obtain ⟨c, hc, rfl⟩ := h
    rcases bnd_ok hk with ⟨h, _⟩ | ⟨j, m, h, hm, h2⟩
    · cases h
    · have h1 := cod_rv hc rf
      have e : ev1 f c = .int j (m : Int) := by simpa [evo] using h
      rw [e] at h1
      exact ⟨m, h2, .inr ⟨j, by rw [Option.map_some, rv_int h1], hm⟩⟩
theorem run_bound {j : IntKind} {m y : Nat} (h : m ≤ y) (c : BoundsCode) (w : World) : (Instr.sliceBound (.int j (m : Int)) y c).run P w = .ok m w := by
  have : (m : Int) ≤ (y : Int) := by omega
  simp [Instr.sliceBound, asIntOf, h]
theorem run_bounds {b : Bool} {len cap m h l : Nat} {lo hi mx : Option Value} (h1 : BV mx cap cap m) (h2 : BV hi m len h) (h3 : BV lo h 0 l) (h4 : mx.isSome = true → hi.isSome = true) (w : World) :
    (Instr.sliceBounds b len cap lo hi mx).run P w = .ok (l, h, m) w := by
  rcases h1 with ⟨rfl, rfl⟩ | ⟨j1, rfl, h1⟩ <;> rcases h2 with ⟨rfl, rfl⟩ | ⟨j2, rfl, h2⟩ <;> rcases h3 with ⟨rfl, rfl⟩ | ⟨j3, rfl, h3⟩ <;> first
    | (simp at h4; done)
    | (simp [Instr.sliceBounds, run_bound, *]; done)
theorem s_slice {t e : TypeId} {sz : Nat} {lo hi mx : Option Operand} {clo chi cmx : Option CO} (ht : P.underlying t = some (.slice e)) (hs : sizeAt P e = some sz) (hm : mx.isSome = true → hi.isSome = true)
    (ho : o.op = .slice t x lo hi mx) (hx : cod x = some cx) (hlo : codo lo = some clo) (hhi : codo hi = some chi) (hmx : codo mx = some cmx) (rf : RF E w nt f a) (rh : RelH s.obj E w)
    (h : opSlice sz cx clo chi cmx call f s = .ok r s') : s' = s ∧ Out P (execOp a.eval o) n n' s.obj E w r s.obj := by
  have h1 := cod_rv hx rf
  have hmi : (mx.map a.eval).isSome = true → (hi.map a.eval).isSome = true := by simpa using hm
  have hcm : cmx.isSome = mx.isSome := by
    cases mx with
    | none => cases hmx; rfl
    | some _ => simp only [codo, Option.map_eq_some_iff] at hmx; obtain ⟨_, _, rfl⟩ := hmx; rfl
  have run : ∀ (g : Option Addr) (len cap m h' l : Nat), a.eval x = .slice g len cap → BV (mx.map a.eval) cap cap m → BV (hi.map a.eval) m len h' → BV (lo.map a.eval) h' 0 l →
      (execOp a.eval o).run P w = .ok (.value (.slice (if m = l then g else g.map (·.add (l * sz))) (h' - l) (m - l))) w := fun g len cap m h' l hx h1 h2 h3 => by
    simp [execOp, ho, hx, Instr.sliceAt, Instr.slice, run_underlying ht, run_bounds h1 h2 h3 hmi, run_sizeOf hs]
  rcases onSl_ok h with ⟨hv, h⟩ | ⟨b, off, len, cap, ex, hv, h⟩ | ⟨cs, len, cap, ex, hv, h⟩ | ⟨h, _⟩
  · rw [hv] at h1
    generalize hu : a.eval x = u at h1
    cases h1
    obtain ⟨m, h, b1⟩ := codo_bv hmx rf h
    obtain ⟨h', h, b2⟩ := codo_bv hhi rf h
    obtain ⟨l, h, b3⟩ := codo_bv hlo rf h
    obtain ⟨rfl, rfl⟩ := ok_inj h
    have hm0 : m = 0 := by rcases b1 with ⟨_, rfl⟩ | ⟨_, _, h⟩ <;> omega
    subst hm0
    have hh0 : h' = 0 := by rcases b2 with ⟨_, rfl⟩ | ⟨_, _, h⟩ <;> omega
    subst hh0
    have hl0 : l = 0 := by rcases b3 with ⟨_, rfl⟩ | ⟨_, _, h⟩ <;> omega
    subst hl0
    exact ⟨rfl, .same (run none 0 0 0 0 0 hu b1 b2 b3) rh (by simpa using RV.nils)⟩
  · rw [hv] at h1
    generalize hu : a.eval x = u at h1
    cases h1 with | sl _ _ _ _ cap' _ hD hlc hc hxx hss =>
    obtain ⟨m, h, b1⟩ := codo_bv hmx rf h
    obtain ⟨h', h, b2⟩ := codo_bv hhi rf h
    obtain ⟨l, h, b3⟩ := codo_bv hlo rf h
    have hlh : l ≤ h' := by rcases b3 with ⟨_, rfl⟩ | ⟨_, _, h⟩ <;> omega
    have hhm : h' ≤ m := by
      rcases b2 with ⟨e, rfl⟩ | ⟨_, _, hle⟩
      · rcases b1 with ⟨_, rfl⟩ | ⟨j, e2, _⟩
        · exact hlc
        · exfalso
          have := hmi (by rw [e2]; rfl)
          rw [e] at this; cases this
      · exact hle
    have hmc : m ≤ cap := by rcases b1 with ⟨_, rfl⟩ | ⟨_, _, hle⟩ <;> omega
    obtain ⟨m', b1', hmm, hex, hmc'⟩ : ∃ m', BV (mx.map a.eval) cap' cap' m' ∧ m ≤ m' ∧ ((ex = 0 ∨ mx.isSome = true) → m' = m) ∧ m' ≤ cap' := by
      rcases b1 with ⟨e, rfl⟩ | ⟨j, e, hle⟩
      · refine ⟨cap', .inl ⟨e, rfl⟩, hc, fun h => ?_, Nat.le_refl _⟩
        rcases h with h | h
        · exact hxx h
        · cases mx with
          | none => cases h
          | some _ => cases e
      · exact ⟨m, .inr ⟨j, e, by omega⟩, Nat.le_refl _, fun _ => rfl, by omega⟩
    have b2' : BV (hi.map a.eval) m' len h' := by
      rcases b2 with e | ⟨j, e, hle⟩
      · exact .inl e
      · exact .inr ⟨j, e, by omega⟩
    have hrun := run _ len cap' m' h' l hu b1' b2' b3
    have hx0 : ∀ q : Bool, Nat.beq ex 0 = q → (q = true → ex = 0) := fun q h h1 => Nat.eq_of_beq_eq_true (h.trans h1)
    cases hb : br (Nat.beq ex 0) true (br cmx.isSome true (Nat.ble (Nat.succ l) cap)) with
    | true =>
      rw [hb] at h
      obtain ⟨hz, h⟩ := br_ok h
      obtain ⟨rfl, rfl⟩ := ok_inj h
      refine ⟨rfl, .same hrun rh ?_⟩
      have key : (m' = l ↔ m = l) := by
        cases hex1 : Nat.beq ex 0 with
        | true => rw [hex (.inl (hx0 _ hex1 rfl))]
        | false =>
          rw [hex1] at hb
          cases hms : cmx.isSome with
          | true => rw [hex (.inr (by rw [← hcm]; exact hms))]
          | false =>
            rw [hms] at hb
            have hlt : l < cap := Nat.le_of_ble_eq_true hb
            have hmcap : m = cap := by
              rcases b1 with ⟨_, e⟩ | ⟨j, e, _⟩
              · exact e
              · exfalso
                rw [hcm] at hms
                cases mx with
                | none => cases e
                | some _ => cases hms
            constructor <;> intro <;> omega
      have hoff : (if m' = l then (some (⟨(E.φ b).block, (E.φ b).off + off, none⟩ : Addr)) else (some (⟨(E.φ b).block, (E.φ b).off + off, none⟩ : Addr)).map (·.add (l * sz))) = some ⟨(E.φ b).block, (E.φ b).off + br (Nat.beq m l) off (Nat.add off (Nat.mul l sz)), none⟩ := by
        by_cases e : m = l
        · rw [if_pos (key.mpr e)]
          have : Nat.beq m l = true := by rw [e]; exact Nat.beq_refl l
          rw [this]; rfl
        · rw [if_neg (fun h => e (key.mp h))]
          have : Nat.beq m l = false := by
            cases hq : Nat.beq m l with
            | false => rfl
            | true => exact absurd (Nat.eq_of_beq_eq_true hq) e
          rw [this, Option.map_some, addr_add, Nat.add_assoc]; rfl
      rw [hoff]
      refine .sl b _ _ _ _ _ hD (by show h' - l ≤ m - l; omega) (by show m - l ≤ m' - l; omega) (fun h => ?_) (fun h => ?_)
      · show m' - l = m - l
        rw [hex ?_]
        cases hms : cmx.isSome with
        | true => exact .inr (by rw [← hcm]; exact hms)
        | false => rw [hms] at h; exact .inl h
      · cases hms : cmx.isSome with
        | true => rw [hms] at h; exact absurd rfl h
        | false =>
          rw [hms] at h hz
          have hne : ex ≠ 0 := h
          obtain ⟨c, e, fr, k1, k2⟩ := hss hne
          refine ⟨c, e, fr, k1, ?_⟩
          have hbz : Nat.beq ex 0 = false := by
            cases hq : Nat.beq ex 0 with
            | false => rfl
            | true => exact absurd (Nat.eq_of_beq_eq_true hq) hne
          rw [hbz] at hz
          have hsz : ex = sz := Nat.eq_of_beq_eq_true hz
          show (E.φ b).off + br (Nat.beq m l) off (Nat.add off (Nat.mul l sz)) + (m' - l) * ex ≤ c.size
          have k3 : (m' - l) * ex + l * ex ≤ cap' * ex := by
            rw [← Nat.add_mul]; exact Nat.mul_le_mul_right _ (by omega)
          rw [← hsz]
          cases Nat.beq m l with
          | true => show (E.φ b).off + off + _ ≤ _; omega
          | false => show (E.φ b).off + (off + l * ex) + _ ≤ _; omega
    | false =>
      rw [hb] at h
      obtain ⟨rfl, rfl⟩ := ok_inj h
      refine ⟨rfl, .same hrun rh ?_⟩
      have hex1 : Nat.beq ex 0 = false := by cases hq : Nat.beq ex 0 <;> first | rfl | (rw [hq] at hb; cases hb)
      have hms : cmx.isSome = false := by cases hq : cmx.isSome <;> first | rfl | (rw [hex1, hq] at hb; cases hb)
      rw [hms, hex1] at hb
      have hge : ¬ l < cap := fun hlt => by
        have : Nat.ble (Nat.succ l) cap = true := Nat.ble_eq_true_of_le hlt
        rw [br_false, br_false, this] at hb; cases hb
      have hmcap : m = cap := by
        rcases b1 with ⟨_, e⟩ | ⟨j, e, _⟩
        · exact e
        · exfalso
          rw [hcm] at hms
          cases mx with
          | none => cases e
          | some _ => cases hms
      have hh : h' - l = 0 := by omega
      rw [hh]
      have hoff : ∃ g o', (if m' = l then (some (⟨(E.φ b).block, (E.φ b).off + off, none⟩ : Addr)) else (some (⟨(E.φ b).block, (E.φ b).off + off, none⟩ : Addr)).map (·.add (l * sz))) = some ⟨g, o', none⟩ := by
        split
        · exact ⟨_, _, rfl⟩
        · rw [Option.map_some, addr_add]; exact ⟨_, _, rfl⟩
      obtain ⟨g, o', e⟩ := hoff
      rw [e]
      exact .ts [] 0 0 _ false g o' [] (fun h => absurd rfl h) rfl (fun j u h => by simp at h) (fun j c u h => by simp at h) (fun c h => by simp at h) (Nat.zero_le _) (Nat.zero_le _) (fun h => by cases h)
  · rw [hv] at h1
    generalize hu : a.eval x = u at h1
    cases h1 with | ts _ _ _ cap' _ g off us hI hl hcc hr ho1 hlen hcap hxx =>
    obtain ⟨m, h, b1⟩ := codo_bv hmx rf h
    obtain ⟨h', h, b2⟩ := codo_bv hhi rf h
    obtain ⟨l, h, b3⟩ := codo_bv hlo rf h
    obtain ⟨rfl, rfl⟩ := ok_inj h
    have hlh : l ≤ h' := by rcases b3 with ⟨_, rfl⟩ | ⟨_, _, h⟩ <;> omega
    obtain ⟨m', b1', hmm, hex⟩ : ∃ m', BV (mx.map a.eval) cap' cap' m' ∧ m ≤ m' ∧ ((ex = true ∨ mx.isSome = true) → m' = m) := by
      rcases b1 with ⟨e, rfl⟩ | ⟨j, e, hle⟩
      · refine ⟨cap', .inl ⟨e, rfl⟩, hcap, fun h => ?_⟩
        rcases h with h | h
        · exact hxx h
        · cases mx with
          | none => cases h
          | some _ => cases e
      · exact ⟨m, .inr ⟨j, e, by omega⟩, Nat.le_refl _, fun _ => rfl⟩
    have b2' : BV (hi.map a.eval) m' len h' := by
      rcases b2 with e | ⟨j, e, hle⟩
      · exact .inl e
      · exact .inr ⟨j, e, by have : Nat.min m len ≤ m := Nat.min_le_left m len; omega⟩
    have hh : h' ≤ m' := by
      rcases b2 with ⟨e, rfl⟩ | ⟨_, _, hle⟩
      · rcases b1' with ⟨_, rfl⟩ | ⟨j, e2, _⟩
        · exact hlen
        · exfalso
          have := hmi (by rw [e2]; rfl)
          rw [e] at this; cases this
      · have : Nat.min m len ≤ m := Nat.min_le_left m len; omega
    have hrun := run _ len cap' m' h' l hu b1' b2' b3
    refine ⟨rfl, .same hrun rh ?_⟩
    rw [dr_eq, tk_eq]
    have hrow : RL E w ((cs.take (h' * sz)).drop (l * sz)) ((us.take (h' * sz)).drop (l * sz)) := (RL.take ⟨hl, hr⟩ _).drop _
    have hone : ∀ c ∈ (cs.take (h' * sz)).drop (l * sz), c.one = true := fun c hc => ho1 c (List.mem_of_mem_take (List.mem_of_mem_drop hc))
    by_cases e : m' = l
    · rw [if_pos e]
      have eh : h' = l := by omega
      subst eh
      have hemp : (cs.take (h' * sz)).drop (h' * sz) = [] := by apply List.drop_eq_nil_of_le; rw [List.length_take]; exact Nat.min_le_left _ _
      have hempu : (us.take (h' * sz)).drop (h' * sz) = [] := by apply List.drop_eq_nil_of_le; rw [List.length_take]; exact Nat.min_le_left _ _
      show RV E w (.ts ((cs.take (h' * sz)).drop (h' * sz)) (h' - h') (m - h') (br ex true cmx.isSome)) _
      rw [hemp]
      refine .ts [] _ _ _ _ g off [] (fun h => absurd rfl h) rfl (fun j u h => by simp at h) (fun j c u h => by simp at h) (fun c h => by simp at h) (by omega) (by omega) (fun h => ?_)
      rw [hex ?_]
      cases hex1 : ex with
      | true => exact .inl rfl
      | false => rw [hex1] at h; exact .inr (by rw [← hcm]; exact h)
    · rw [if_neg e, Option.map_some, addr_add]
      refine .ts _ _ _ _ _ g (off + l * sz) ((us.take (h' * sz)).drop (l * sz)) (fun hn => hI (fun e => hn (by rw [e]; simp))) hrow.len (fun j u hj => ?_) hrow.each hone (by show h' - l ≤ m' - l; omega) (by show m - l ≤ m' - l; omega) (fun h => ?_)
      · rw [List.getElem?_drop, List.getElem?_take] at hj
        split at hj
        · rw [Nat.add_assoc]; exact hcc _ u hj
        · cases hj
      · show m' - l = m - l
        rw [hex ?_]
        cases hex1 : ex with
        | true => exact .inl rfl
        | false => rw [hex1] at h; exact .inr (by rw [← hcm]; exact h)
  · exact R.noConfusion h
end
end Go.Vm
