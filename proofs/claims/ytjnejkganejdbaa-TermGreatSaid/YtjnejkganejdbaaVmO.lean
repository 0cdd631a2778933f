/- The abstract machine is sound: maps written, appending. No condition. -/
import Derived.Test.YtjnejkganejdbaaVmN
namespace Go.Vm
set_option linter.unusedVariables false
variable {P : Program}
section
variable {E : Env} {w : World} {nt : Nat} {f : Fr AV} {a : Act} {s s' : St} {r : AV} {call : CallT} {n n' : Nat} {o : Oper} {x y z : Operand} {cx cy cz : CO}
/-! ### Maps -/
theorem mput_ok {str : Bool} {d : TypeDesc} (hd : (str = true ∧ d = .string) ∨ (str = false ∧ ∃ k, d = .int k)) {c : AV} {u : Value} (h1 : RV E w c u) (hk : ∀ R0 : R, isKey str c R0 = R0) {es : List (AV × AV)} {ms : List MapEntry} {v : AV} {k : List (AV × AV) → R}
    (hks : RL E w (es.map (·.1)) (ms.map (·.key))) (i : Nat) (h : mput es c v k = .ok r s') :
    (Instr.findNow d u ms i = some none ∧ k (es ++ [(c, v)]) = .ok r s') ∨ ∃ (j : Nat) (e : MapEntry), Instr.findNow d u ms i = some (some (i + j, e.val)) ∧ ms[j]? = some e ∧ Instr.sameNow d u e.key = some true ∧ k (es.set j (c, v)) = .ok r s' := by
  induction es generalizing ms i k with
  | nil =>
    have : ms = [] := List.eq_nil_of_length_eq_zero (by simpa using hks.len)
    subst this
    exact .inl ⟨rfl, h⟩
  | cons e es ih =>
    obtain ⟨b, v'⟩ := e
    cases ms with
    | nil => have := hks.len; simp at this
    | cons m ms =>
      obtain ⟨_, _, e1, g1, g2⟩ := RL.cons_inv (show RL E w (b :: es.map (·.1)) (m.key :: ms.map (·.key)) from hks)
      cases e1
      rcases keyEq_ok hd h1 g1 hk (show keyEq c b .no (k ((c, v) :: es)) (mput es c v fun q => k ((b, v') :: q)) = .ok r s' from h) with ⟨k1, k2⟩ | ⟨k1, k2⟩
      · exact .inr ⟨0, m, by simp [Instr.findNow, k1], rfl, k1, k2⟩
      · rcases ih g2 (i + 1) k2 with ⟨k3, k4⟩ | ⟨j, e, k3, k4, k5, k6⟩
        · exact .inl ⟨by simp only [Instr.findNow, k1]; exact k3, k4⟩
        · exact .inr ⟨j + 1, e, by simp only [Instr.findNow, k1]; rw [k3]; congr 3; omega, by simpa using k4, k5, k6⟩
theorem sameBits_of {d : TypeDesc} {u v : Value} (h : Instr.sameNow d u v = some true) : Instr.sameBits 10000 v u = true := by
  unfold Instr.sameNow at h
  split at h
  · split at h
    · rename_i e
      subst e
      have := Option.some.inj h
      simp only [beq_iff_eq] at this
      subst this
      simp [Instr.sameBits]
    · cases h
  · rename_i a b
    have h' := Option.some.inj h
    have h0 : (a == b) = (a.data == b.data) := by cases a; cases b; rfl
    rw [h0, beq_iff_eq] at h'
    have : a = b := by cases a; cases b; simp_all
    subst this
    have h1 : (a == a) = (a.data == a.data) := by cases a; rfl
    simp [Instr.sameBits, h1]
  · rename_i a b
    have := Option.some.inj h
    simp only [beq_iff_eq] at this
    subst this
    simp [Instr.sameBits]
  · cases h
theorem RL.set {cs : List AV} {us : List Value} (h : RL E w cs us) {c : AV} {u : Value} (hc : RV E w c u) (j : Nat) : RL E w (cs.set j c) (us.set j u) := by
  refine ⟨by simp [h.len], fun i c' u' h1 h2 => ?_⟩
  rw [List.getElem?_set] at h1 h2
  by_cases hij : j = i
  · subst hij
    rw [if_pos rfl] at h1 h2
    split at h1 <;> split at h2 <;> first | (cases h1; cases h2; exact hc) | (cases h1; done) | (cases h2; done)
  · rw [if_neg hij] at h1 h2; exact h.each i c' u' h1 h2
theorem modify_lists (ms : Array MapEntry) (j : Nat) (k v : Value) : ((ms.modify j fun e => { e with key := k, val := v }).toList.map (·.key)) = (ms.toList.map (·.key)).set j k ∧ ((ms.modify j fun e => { e with key := k, val := v }).toList.map (·.val)) = (ms.toList.map (·.val)).set j v := by
  constructor
  all_goals
    apply List.ext_getElem?
    intro i
    simp only [List.getElem?_map, Array.getElem?_toList, Array.getElem?_modify, List.getElem?_set]
    by_cases hij : j = i
    · subst hij
      by_cases hl : j < ms.size
      · simp [hl]
      · simp [hl]
    · simp [hij]
theorem born_push {ms : Array MapEntry} {cl : Nat} (h : Born ms cl) (k v : Value) : Born (ms.push { key := k, val := v, born := cl }) (cl + 1) := by
  refine ⟨fun i e hi => ?_, fun i j e e' hi hj hb => ?_⟩
  · rw [Array.getElem?_push] at hi
    split at hi
    · cases hi; exact Nat.lt_succ_self _
    · exact Nat.lt_succ_of_lt (h.lt i e hi)
  · rw [Array.getElem?_push] at hi hj
    split at hi <;> split at hj
    · omega
    · cases hi; have := h.lt j e' hj; simp only at hb; omega
    · cases hj; have := h.lt i e hi; simp only at hb; omega
    · exact h.inj i j e e' hi hj hb
theorem born_modify {ms : Array MapEntry} {cl : Nat} (h : Born ms cl) (j : Nat) (k v : Value) : Born (ms.modify j fun e => { e with key := k, val := v }) cl := by
  have get : ∀ (i : Nat) (e : MapEntry), (ms.modify j fun e => { e with key := k, val := v })[i]? = some e → ∃ e0, ms[i]? = some e0 ∧ e0.born = e.born := by
    intro i e hi
    rw [Array.getElem?_modify] at hi
    split at hi
    · cases hm : ms[i]? with
      | none => rw [hm] at hi; cases hi
      | some e0 => rw [hm] at hi; cases hi; exact ⟨e0, rfl, rfl⟩
    · exact ⟨e, hi, rfl⟩
  refine ⟨fun i e hi => ?_, fun i i' e e' hi hj hb => ?_⟩
  · obtain ⟨e0, h1, h2⟩ := get i e hi
    rw [← h2]; exact h.lt i e0 h1
  · obtain ⟨e0, h1, h2⟩ := get i e hi
    obtain ⟨e1, h3, h4⟩ := get i' e' hj
    exact h.inj i i' e0 e1 h1 h3 (by rw [h2, h4]; exact hb)
theorem s_mupd {t kt e : TypeId} {d : TypeDesc} {str : Bool} (ht : P.underlying t = some (.map kt e)) (hkt : P.underlying kt = some d) (hd : (str = true ∧ d = .string) ∨ (str = false ∧ ∃ k, d = .int k))
    (ho : o.op = .mapUpdate t x y z) (hx : cod x = some cx) (hy : cod y = some cy) (hz : cod z = some cz) (rf : RF E w nt f a) (rh : RelH s.obj E w)
    (h : opMupd str cx cy cz call f s = .ok r s') : s'.n = s.n ∧ Out P (execOp a.eval o) n n' s.obj E w r s'.obj := by
  have h1 := cod_rv hx rf
  have h2 := cod_rv hy rf
  have h3 := cod_rv hz rf
  obtain ⟨hk, hh⟩ := isKey_ok h
  rcases onMap_ok hh with ⟨hv, hh⟩ | ⟨b, hv, hh⟩ | hh
  · exact R.noConfusion hh
  · rw [hv] at h1
    obtain ⟨es, he, hh⟩ := onMapO_ok hh
    obtain ⟨ms, cl, H⟩ := rh.map b es he
    have hne : s.obj b ≠ .dead := by rw [he]; intro h; cases h
    generalize hu : a.eval x = u at h1
    cases h1
    have hlt : (E.φ b).block < w.heap.size := (Array.getElem?_eq_some_iff.mp H.heap).1
    have hgo : (getObj (E.φ b).block).run P w = .ok (.map ms cl) w := by simp [getObj, Sem.run, H.heap]
    -- what the new map says
    have key : ∀ (es' : List (AV × AV)) (ms' : Array MapEntry) (cl' : Nat) (w' : World), w' = { w with heap := w.heap.setIfInBounds (E.φ b).block (.map ms' cl') } → RL E w (es'.map (·.1)) (ms'.toList.map (·.key)) → RL E w (es'.map (·.2)) (ms'.toList.map (·.val)) → Born ms' cl' →
        (Instr.mapUpdate t (.map (some (E.φ b).block)) (a.eval y) (a.eval z)).run P w = .ok () w' → R.ok undef (s.put b (.map es')) = .ok r s' → s'.n = s.n ∧ Out P (execOp a.eval o) n n' s.obj E w r s'.obj := by
      intro es' ms' cl' w' hw' g1 g2 gb g3 g4
      obtain ⟨rfl, rfl⟩ := ok_inj g4
      have hat : w'.heap[(E.φ b).block]? = some (.map ms' cl') := by rw [hw']; simp [hlt]
      have hot : ∀ k, k ≠ (E.φ b).block → w'.heap[k]? = w.heap[k]? := fun k hk => by rw [hw']; simp [Ne.symm hk]
      have hle : Le E w E w' := ⟨fun _ h => h, fun _ _ => rfl, fun _ h => h, fun k hk => hot k (fun he => rh.apart b hne (by rw [← he]; exact hk)), fun k c e fr hk => by
        by_cases hkb : k = (E.φ b).block
        · subst hkb; rw [H.heap] at hk; cases hk
        · exact ⟨c, fr, by rw [hot k hkb]; exact hk, rfl⟩⟩
      have hsz : w.heap.size ≤ w'.heap.size := by rw [hw']; simp
      refine ⟨by simp, E, w', Go.undef, .inr ⟨by simp [execOp, ho, hu, g3], rfl⟩, rel_step rh hle b (rh.old b hne) (fun cs hcs => ?_) (fun es2 hes => ?_) (fun c hc hcd => ?_) (rh.apart b hne) (fun _ h => h) hsz, RV.undef E w', ?_⟩
      · rw [St.obj_put, if_pos rfl] at hcs; cases hcs
      · rw [St.obj_put, if_pos rfl] at hes; cases hes
        exact ⟨ms', cl', hat, g1.mono hle, g2.mono hle, gb⟩
      · rw [St.obj_put, if_neg hc] at hcd
        exact ⟨by rw [St.obj_put, if_neg hc], hot _ (fun he => rh.inj c b hcd hne hc he), fun he => rh.inj b c hne hcd (fun h => hc h.symm) he⟩
      · refine ⟨fun _ h => h, fun _ _ => rfl, fun _ h => .inl h, fun _ h => h, fun _ h => .inl h, by rw [hw'], by rw [hw'], by rw [hw'], hsz, fun k hk hkb => hot k (fun he => hkb b hne he.symm), hle.shape, fun c hc => ?_⟩
        by_cases hcb : c = b
        · subst hcb; exact .inl ⟨c, hne, rfl⟩
        · rw [St.obj_put, if_neg hcb] at hc; exact .inl ⟨c, hc, rfl⟩
    rcases mput_ok hd h2 hk H.keys 0 hh with ⟨k1, k2⟩ | ⟨j, e', k1, k2, k3, k4⟩
    · refine key _ (ms.push { key := a.eval y, val := a.eval z, born := cl }) (cl + 1) _ rfl ?_ ?_ (born_push H.born _ _) ?_ k2
      · simpa using H.keys.append (RL.cons h2 (RL.nil _ _))
      · simpa using H.vals.append (RL.cons h3 (RL.nil _ _))
      · simp [Instr.mapUpdate, run_underlying ht, hgo, run_checkKey_vm hkt hd, Instr.findKey, run_underlying hkt, k1, MapKept.run_setObj_map _ H.heap]
    · have hme : ms[j]? = some e' := by rw [← Array.getElem?_toList]; exact k2
      have hkeep : (Instr.keyThatStays e'.key (a.eval y)).run P w = .ok (a.eval y) w := by simp [Instr.keyThatStays, sameBits_of k3]
      refine key _ (ms.modify j fun e => { e with key := a.eval y, val := a.eval z }) cl _ rfl ?_ ?_ (born_modify H.born _ _ _) ?_ k4
      · rw [(modify_lists ms j _ _).1, List.map_set]; exact H.keys.set h2 j
      · rw [(modify_lists ms j _ _).2, List.map_set]; exact H.vals.set h3 j
      · simp only [Nat.zero_add] at k1
        simp [Instr.mapUpdate, run_underlying ht, hgo, run_checkKey_vm hkt hd, Instr.findKey, run_underlying hkt, k1, hme, hkeep, MapKept.run_setObj_map _ H.heap]
  · exact R.noConfusion hh
end
end Go.Vm
