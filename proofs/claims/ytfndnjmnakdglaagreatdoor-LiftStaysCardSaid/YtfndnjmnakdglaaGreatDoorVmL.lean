/- The abstract machine is sound: blocks that are made and written. No condition. -/
import Derived.Test.YtfndnjmnakdglaaGreatDoorVmE
import Derived.Laws.CopyRow
import Derived.Deep.AppendSrc
import Derived.Laws.MakeOwn
import Derived.Great.FillDense
import Derived.Great.BuildSlice
namespace Go.Vm
set_option linter.unusedVariables false
variable {P : Program}

theorem rel_step {o o' : Id → AO} {E E' : Env} {w w' : World} (h : RelH o E w) (hle : Le E w E' w') (b0 : Id) (hD : E'.D b0)
    (hcell : ∀ cs, o' b0 = .cells cs → ∃ c e us, Holds E' w' b0 cs c e us) (hmap : ∀ es, o' b0 = .map es → ∃ ms cl, Maps E' w' b0 es ms cl)
    (hoth : ∀ b, b ≠ b0 → o' b ≠ .dead → o' b = o b ∧ w'.heap[(E.φ b).block]? = w.heap[(E.φ b).block]? ∧ (E'.φ b0).block ≠ (E.φ b).block)
    (hap : ¬ E'.I (E'.φ b0).block) (hI : ∀ k, E'.I k → E.I k) (hsz : w.heap.size ≤ w'.heap.size) : RelH o' E' w' where
  cells b cs hb := by
    by_cases hbb : b = b0
    · subst hbb; exact hcell cs hb
    · obtain ⟨h1, h2, _⟩ := hoth b hbb (by rw [hb]; intro h; cases h)
      rw [h1] at hb
      obtain ⟨c, e, us, H⟩ := h.cells b cs hb
      have hφ := hle.φ b (h.old b (by rw [hb]; intro h; cases h))
      exact ⟨c, e, us, by rw [hφ, h2]; exact H.heap, H.row.mono hle, fun j u hu => by rw [hφ]; exact H.at_ j u hu, H.one⟩
  map b es hb := by
    by_cases hbb : b = b0
    · subst hbb; exact hmap es hb
    · obtain ⟨h1, h2, _⟩ := hoth b hbb (by rw [hb]; intro h; cases h)
      rw [h1] at hb
      obtain ⟨ms, cl, H⟩ := h.map b es hb
      have hφ := hle.φ b (h.old b (by rw [hb]; intro h; cases h))
      exact ⟨ms, cl, by rw [hφ, h2]; exact H.heap, H.keys.mono hle, H.vals.mono hle, H.born⟩
  old b hb := by
    by_cases hbb : b = b0
    · subst hbb; exact hD
    · obtain ⟨h1, _, _⟩ := hoth b hbb hb
      exact hle.D b (h.old b (by rw [← h1]; exact hb))
  inj b c hb hc hbc := by
    by_cases hbb : b = b0
    · subst hbb
      obtain ⟨h1, _, h3⟩ := hoth c (fun e => hbc e.symm) hc
      rw [hle.φ c (h.old c (by rw [← h1]; exact hc))]; exact h3
    · obtain ⟨h1, _, h3⟩ := hoth b hbb hb
      rw [hle.φ b (h.old b (by rw [← h1]; exact hb))]
      by_cases hcc : c = b0
      · subst hcc; exact fun e => h3 e.symm
      · obtain ⟨k1, _, _⟩ := hoth c hcc hc
        rw [hle.φ c (h.old c (by rw [← k1]; exact hc))]
        exact h.inj b c (by rw [← h1]; exact hb) (by rw [← k1]; exact hc) hbc
  apart b hb := by
    by_cases hbb : b = b0
    · subst hbb; exact hap
    · obtain ⟨h1, _, _⟩ := hoth b hbb hb
      rw [hle.φ b (h.old b (by rw [← h1]; exact hb))]
      exact fun hi => h.apart b (by rw [← h1]; exact hb) (hI _ hi)
  seen k hk := Nat.lt_of_lt_of_le (h.seen k (hI k hk)) hsz
theorem RelH.block_lt {o : Id → AO} {E : Env} {w : World} (h : RelH o E w) {b : Id} (hb : o b ≠ .dead) : (E.φ b).block < w.heap.size := by
  cases ho : o b with
  | dead => exact absurd ho hb
  | cells cs => obtain ⟨c, e, us, H⟩ := h.cells b cs ho; exact (Array.getElem?_eq_some_iff.mp H.heap).1
  | map es => obtain ⟨ms, cl, H⟩ := h.map b es ho; exact (Array.getElem?_eq_some_iff.mp H.heap).1
theorem rel_keep {o : Id → AO} {E E' : Env} {w w' : World} (h : RelH o E w) (hle : Le E w E' w') (hold : ∀ k, k < w.heap.size → w'.heap[k]? = w.heap[k]?) (hsz : w.heap.size ≤ w'.heap.size)
    (hI : ∀ k, E'.I k → E.I k ∨ (w.heap.size ≤ k ∧ k < w'.heap.size)) : RelH o E' w' where
  cells b cs hb := by
    have hne : o b ≠ .dead := by rw [hb]; intro h; cases h
    obtain ⟨c, e, us, H⟩ := h.cells b cs hb
    have hφ := hle.φ b (h.old b hne)
    exact ⟨c, e, us, by rw [hφ, hold _ (h.block_lt hne)]; exact H.heap, H.row.mono hle, fun j u hu => by rw [hφ]; exact H.at_ j u hu, H.one⟩
  map b es hb := by
    have hne : o b ≠ .dead := by rw [hb]; intro h; cases h
    obtain ⟨ms, cl, H⟩ := h.map b es hb
    have hφ := hle.φ b (h.old b hne)
    exact ⟨ms, cl, by rw [hφ, hold _ (h.block_lt hne)]; exact H.heap, H.keys.mono hle, H.vals.mono hle, H.born⟩
  old b hb := hle.D b (h.old b hb)
  inj b c hb hc hbc := by rw [hle.φ b (h.old b hb), hle.φ c (h.old c hc)]; exact h.inj b c hb hc hbc
  apart b hb := by
    rw [hle.φ b (h.old b hb)]
    intro hi
    rcases hI _ hi with h1 | h1
    · exact h.apart b hb h1
    · have := h.block_lt hb; omega
  seen k hk := by
    rcases hI _ hk with h1 | h1
    · exact Nat.lt_of_lt_of_le (h.seen k h1) hsz
    · exact h1.2
theorem RelH.kill {o o' : Id → AO} {E : Env} {w : World} (h : RelH o E w) (ho : ∀ b, o' b = .dead ∨ o' b = o b) : RelH o' E w := by
  have key : ∀ b, o' b ≠ .dead → o' b = o b := fun b hb => (ho b).resolve_left hb
  exact ⟨fun b cs hb => h.cells b cs (by rw [← key b (by rw [hb]; intro h; cases h)]; exact hb), fun b es hb => h.map b es (by rw [← key b (by rw [hb]; intro h; cases h)]; exact hb),
    fun b hb => h.old b (by rw [← key b hb]; exact hb), fun b c hb hc => h.inj b c (by rw [← key b hb]; exact hb) (by rw [← key c hc]; exact hc), fun b hb => h.apart b (by rw [← key b hb]; exact hb), h.seen⟩
theorem ExtH.weaken {n n' : Nat} {o o1 o' : Id → AO} {E E' : Env} {w w' : World} (h : ExtH n n' o1 E w o' E' w') (ho : ∀ b, o1 b ≠ .dead → o b ≠ .dead) : ExtH n n' o E w o' E' w' :=
  { h with
    seen := fun k hk => (h.seen k hk).imp id (Or.imp id fun ⟨b, hb, e⟩ => ⟨b, ho b hb, e⟩)
    keep := fun k hk hb => h.keep k hk (fun b hb1 => hb b (ho b hb1))
    new := fun b hb => (h.new b hb).imp (fun ⟨c, hc, e⟩ => ⟨c, ho c hc, e⟩) id }
theorem Out.kill {m : Sem Next} {n n' : Nat} {o o1 o' : Id → AO} {E : Env} {w : World} {r : AV} (h : Out P m n n' o1 E w r o') (ho : ∀ b, o1 b ≠ .dead → o b ≠ .dead) : Out P m n n' o E w r o' := by
  obtain ⟨E', w', v, h1, h2, h3, h4⟩ := h
  exact ⟨E', w', v, h1, h2, h3, h4.weaken ho⟩
theorem Out.make {m : Sem Next} {s s' : St} {E : Env} {w w' : World} {r : AV} {v : Value} {ao : AO} {ob : Obj}
    (h : m.run P w = .ok (.value v) w') (hr : RelH s.obj E w) (hf : ¬ E.D s.n) (hs' : ∀ c, s'.obj c = if c = s.n then ao else s.obj c)
    (hheap : w'.heap = w.heap.push ob) (hos : w'.os = w.os) (htape : w'.tape = w.tape) (hout : w'.output = w.output)
    (hao : ∀ E', Le E w E' w' → E'.φ s.n = ⟨w.heap.size, 0, none⟩ → (∀ cs, ao = .cells cs → ∃ c e us, Holds E' w' s.n cs c e us) ∧ (∀ es, ao = .map es → ∃ ms cl, Maps E' w' s.n es ms cl))
    (hv : ∀ E', Le E w E' w' → E'.D s.n → E'.φ s.n = ⟨w.heap.size, 0, none⟩ → RV E' w' r v) : Out P m s.n.val (s.n.val + 1) s.obj E w r s'.obj := by
  let E' : Env := ⟨fun b => if b = s.n then ⟨w.heap.size, 0, none⟩ else E.φ b, E.I, fun b => E.D b ∨ b = s.n⟩
  have hφ : ∀ b, E.D b → E'.φ b = E.φ b := fun b hb => if_neg (fun h' : b = s.n => hf (by rw [← h']; exact hb))
  have hφn : E'.φ s.n = ⟨w.heap.size, 0, none⟩ := if_pos rfl
  have hold : ∀ k, k < w.heap.size → w'.heap[k]? = w.heap[k]? := fun k hk => by rw [hheap, Array.getElem?_push, if_neg (by omega)]
  have hsz : w.heap.size ≤ w'.heap.size := by rw [hheap, Array.size_push]; omega
  have hlive : ∀ b, b ≠ s.n → s'.obj b = s.obj b := fun b hb => by rw [hs', if_neg hb]
  have hle : Le E w E' w' := ⟨fun b hb => .inl hb, hφ, fun _ hk => hk, fun k hk => hold k (hr.seen k hk), .of_old hold⟩
  have hao' := hao E' hle hφn
  have hn : s'.obj s.n = ao := by rw [hs', if_pos rfl]
  refine ⟨E', w', v, .inl h, rel_step hr hle s.n (.inr rfl) (fun cs hc => hao'.1 cs (by rw [← hn]; exact hc)) (fun es hc => hao'.2 es (by rw [← hn]; exact hc)) (fun b hb hd => ?_) ?_ (fun _ hk => hk) hsz, hv E' hle (.inr rfl) hφn,
    ⟨fun b hb => .inl hb, hφ, ?_, fun _ hk => hk, fun _ hk => .inl hk, hos, htape, hout, hsz, fun k hk _ => hold k hk, .of_old hold, ?_⟩⟩
  · have e := hlive b hb
    rw [e] at hd
    have := hr.block_lt hd
    exact ⟨e, hold _ this, by rw [hφn]; show w.heap.size ≠ _; omega⟩
  · rw [hφn]; intro hI; have := hr.seen _ hI; simp at this
  · rintro b (hb | rfl)
    · exact .inl hb
    · exact .inr ⟨Nat.le_refl _, Nat.lt_succ_self _⟩
  · intro b hb
    by_cases hbn : b = s.n
    · rw [hbn, hφn]; exact .inr (Nat.le_refl _)
    · rw [hlive b hbn] at hb
      rw [hφ b (hr.old b hb)]; exact .inl ⟨b, hb, rfl⟩
theorem Out.row {m : Sem Next} {s s' : St} {E : Env} {w w' : World} {r : AV} {v : Value} {cs : List AV} {us more : List Value} {e : TypeId}
    (h : m.run P w = .ok (.value v) w') (hr : RelH s.obj E w) (hf : ¬ E.D s.n) (hs' : ∀ c, s'.obj c = if c = s.n then .cells cs else s.obj c)
    (hheap : w'.heap = w.heap.push (.cells (us ++ more).toArray e (0, 0))) (hos : w'.os = w.os) (htape : w'.tape = w.tape) (hout : w'.output = w.output)
    (hrow : RL E w cs us) (h1 : ∀ c ∈ cs, c.one = true)
    (hv : ∀ E', Le E w E' w' → E'.D s.n → E'.φ s.n = ⟨w.heap.size, 0, none⟩ → RV E' w' r v) : Out P m s.n.val (s.n.val + 1) s.obj E w r s'.obj := by
  refine Out.make h hr hf hs' hheap hos htape hout (fun E' hle hφ => ⟨fun cs' hcs => ?_, fun es hes => by cases hes⟩) hv
  cases hcs
  refine ⟨(us ++ more).toArray, e, us, ?_, hrow.mono hle, fun j u hu => ?_, h1⟩
  · rw [hφ, hheap]; simp
  · rw [hφ]
    simp only [Nat.zero_add, List.getElem?_toArray]
    rw [List.getElem?_append_left (List.getElem?_eq_some_iff.mp hu).1]; exact hu

theorem splice_eq {α : Type} (o : Nat) (xs l : List α) (h : o + xs.length ≤ l.length) : splice o xs l = l.take o ++ xs ++ l.drop (o + xs.length) := by
  apply List.ext_getElem?
  intro j
  rw [splice_get]
  have hmin : min o l.length = o := by omega
  by_cases h1 : j < o
  · rw [List.append_assoc, List.getElem?_append_left (by rw [List.length_take]; omega), List.getElem?_take, if_pos h1, if_pos (by omega), if_neg (by omega)]
  · rw [List.append_assoc, List.getElem?_append_right (by rw [List.length_take]; omega), List.length_take, hmin]
    by_cases h2 : j < o + xs.length
    · rw [List.getElem?_append_left (by omega), if_pos (by omega), if_pos (by omega)]
    · rw [List.getElem?_append_right (by omega), List.getElem?_drop]
      by_cases h3 : j < l.length
      · rw [if_pos h3, if_neg (by omega)]; congr 1; omega
      · rw [if_neg h3, List.getElem?_eq_none (by omega)]
theorem RL.splice {E : Env} {w : World} {cs ds : List AV} {us vs : List Value} (h : RL E w cs us) (k : RL E w ds vs) (o : Nat) : RL E w (splice o ds cs) (splice o vs us) := by
  refine ⟨by rw [splice_length, splice_length, h.len], fun j c u hc hu => ?_⟩
  rw [splice_get] at hc hu
  by_cases h1 : j < cs.length
  · rw [if_pos h1] at hc
    rw [if_pos (by rw [h.len]; exact h1)] at hu
    by_cases h2 : o ≤ j ∧ j < o + ds.length
    · rw [if_pos h2] at hc
      rw [if_pos (by rw [k.len]; exact h2)] at hu
      exact k.each _ c u hc hu
    · rw [if_neg h2] at hc
      rw [if_neg (by rw [k.len]; exact h2)] at hu
      exact h.each j c u hc hu
  · rw [if_neg h1] at hc; cases hc
theorem splice_mem {α : Type} {o : Nat} {xs l : List α} {c : α} (h : c ∈ splice o xs l) : c ∈ xs ∨ c ∈ l := by
  obtain ⟨j, hj⟩ := List.getElem?_of_mem h
  rw [splice_get] at hj
  split at hj
  · split at hj
    · exact .inl (List.mem_of_getElem? hj)
    · exact .inr (List.mem_of_getElem? hj)
  · cases hj
theorem ones_of {E : Env} {w : World} {cs : List AV} {us : List Value} (h : RL E w cs us) (h1 : ∀ c ∈ cs, c.one = true) : ∀ u ∈ us, u.oneCell' = true := fun u hu => by
  obtain ⟨j, hj⟩ := List.getElem?_of_mem hu
  have hlt : j < cs.length := by rw [← h.len]; exact (List.getElem?_eq_some_iff.mp hj).1
  exact (h.each j _ u (List.getElem?_eq_getElem hlt) hj).one (h1 _ (List.getElem_mem hlt))
theorem write_row {s s' : St} {E : Env} {w : World} {b : Id} {cs l : List AV} {vs : List Value} {off : Nat} (n n' : Nat) (hr : RelH s.obj E w) (hb : s.obj b = .cells cs) (hs' : ∀ c, s'.obj c = if c = b then .cells (splice off l cs) else s.obj c)
    (hl : RL E w l vs) (h1 : ∀ c ∈ l, c.one = true) (hfit : off + l.length ≤ cs.length) :
    ∃ w', (storeCells ⟨(E.φ b).block, (E.φ b).off + off, none⟩ vs).run P w = .ok () w' ∧ Le E w E w' ∧ RelH s'.obj E w' ∧ ExtH n n' s.obj E w s'.obj E w' := by
  obtain ⟨c, e, us, H⟩ := hr.cells b cs hb
  have hne : s.obj b ≠ .dead := by rw [hb]; intro h; cases h
  have hsize : (E.φ b).off + us.length ≤ c.size ∨ us = [] := by
    by_cases h0 : us = []
    · exact .inr h0
    · refine .inl ?_
      have hpos : 0 < us.length := List.length_pos_iff.mpr h0
      have := H.at_ (us.length - 1) us[us.length - 1] (List.getElem?_eq_getElem (by omega))
      have := (Array.getElem?_eq_some_iff.mp this).1
      omega
  have hlen := H.row.len
  have hll := hl.len
  by_cases hv0 : vs = []
  · -- nothing is written
    subst hv0
    have hl0 : l = [] := List.eq_nil_of_length_eq_zero (by rw [← hll]; exact List.length_nil)
    subst hl0
    have hsame : ∀ c, s'.obj c = s.obj c := fun c => by
      rw [hs']
      by_cases hc : c = b
      · rw [if_pos hc, hc, hb]
        congr 1
        apply List.ext_getElem?
        intro j
        rw [splice_get]
        by_cases hj : j < cs.length
        · rw [if_pos hj, if_neg (by simp)]
        · rw [if_neg hj, List.getElem?_eq_none (by omega)]
      · rw [if_neg hc]
    have he : s'.obj = s.obj := funext hsame
    rw [he]
    exact ⟨w, by simp [storeCells], .refl E w, hr, .refl⟩
  · have hvpos : 0 < vs.length := List.length_pos_iff.mpr hv0
    have hsz : (E.φ b).off + us.length ≤ c.size := hsize.resolve_right (fun h0 => by rw [h0] at hlen; simp at hlen; omega)
    have hst := run_storeCells_at P (E.φ b).block ((E.φ b).off + off) e vs 0 c w H.heap (by omega) (ones_of hl h1)
    simp only [Nat.add_zero] at hst
    have hle : ∀ c' : Array Value, c'.size = c.size → Le E w E (w.setRow (E.φ b).block c') := fun c' hc' =>
      ⟨fun _ h => h, fun _ _ => rfl, fun _ h => h, fun k hk => setRow_other w _ k c' (fun he => hr.apart b hne (by rw [← he]; exact hk)), fun k c0 e0 fr0 hk => by
        by_cases hkb : k = (E.φ b).block
        · subst hkb
          rw [H.heap] at hk
          cases hk
          exact ⟨c', _, setRow_heap w _ _ c' _ _ H.heap, hc'⟩
        · exact ⟨c0, fr0, by rw [setRow_other w _ k c' hkb]; exact hk, rfl⟩⟩
    generalize hc' : (c.toList.take ((E.φ b).off + off) ++ vs ++ c.toList.drop ((E.φ b).off + off + vs.length)).toArray = c' at hst
    have hcs : c' = (splice ((E.φ b).off + off) vs c.toList).toArray := by rw [← hc', splice_eq _ _ _ (by have := Array.length_toList (xs := c); omega)]
    have hcz : c'.size = c.size := by rw [hcs]; simp [splice_length]
    have hle' := hle c' hcz
    refine ⟨w.setRow (E.φ b).block c', hst, hle', rel_step hr hle' b (hr.old b hne) (fun ds hds => ?_) (fun es hes => ?_) (fun d hd hdd => ?_) (hr.apart b hne) (fun _ h => h) (by simp), ?_⟩
    · rw [hs', if_pos rfl] at hds
      cases hds
      refine ⟨c', e, Vm.splice off vs us, setRow_heap w _ _ c' _ _ H.heap, (H.row.splice hl off).mono hle', fun j u hu => ?_, fun d hd => (splice_mem hd).elim (h1 d) (H.one d)⟩
      rw [hcs, List.getElem?_toArray, splice_get]
      rw [splice_get] at hu
      split at hu
      · rename_i hj
        rw [if_pos (by rw [Array.length_toList]; omega)]
        split at hu
        · rename_i h2
          rw [if_pos (by omega), ← hu]; congr 1; omega
        · rename_i h2
          rw [if_neg (by omega), Array.getElem?_toList]; exact H.at_ j u hu
      · cases hu
    · rw [hs', if_pos rfl] at hes; cases hes
    · rw [hs', if_neg hd] at hdd
      refine ⟨by rw [hs', if_neg hd], setRow_other w _ _ c' (fun he => hr.inj d b hdd hne hd he), fun he => hr.inj b d hne hdd (fun h => hd h.symm) he⟩
    · refine ⟨fun _ h => h, fun _ _ => rfl, fun _ h => .inl h, fun _ h => h, fun _ h => .inl h, rfl, rfl, rfl, by simp, fun k hk hkb => setRow_other w _ k c' (fun he => hkb b hne he.symm), hle'.shape, fun d hd => ?_⟩
      by_cases hdb : d = b
      · subst hdb; exact .inl ⟨d, hne, rfl⟩
      · rw [hs', if_neg hdb] at hd; exact .inl ⟨d, hd, rfl⟩
end Go.Vm
namespace Go.Vm
set_option linter.unusedVariables false
variable {P : Program}
section
variable {E : Env} {w : World} {nt : Nat} {f : Fr AV} {a : Act} {s s' : St} {r : AV} {call : CallT} {n n' : Nat} {o : Oper} {x y z : Operand} {cx cy cz : CO}
theorem lay_ok {v : AV} {k : List AV → R} (h : v.lay k = .ok r s') : ∃ l, l = v.cells ∧ (∀ vs, v ≠ .tup vs) ∧ k l = .ok r s' := by
  cases v <;> first | exact R.noConfusion h | exact ⟨_, rfl, (fun _ h => by cases h), h⟩
theorem valAt_tup {v : Value} {c : AV} (h : valAt v = some c) : ∀ vs, c ≠ .tup vs := by
  intro vs e; subst e
  cases v with
  | agg cs => simp only [valAt, Option.map_eq_some_iff] at h; obtain ⟨l, _, h⟩ := h; cases h
  | _ =>
    simp only [valAt] at h
    unfold valAt1 at h
    split at h <;> cases h
theorem zeroAt_ok {t : TypeId} {l : List AV} (h : zeroAt P t = some l) : ∃ i zv, P.info? t = some i ∧ i.zero = some zv ∧ 0 < i.size ∧ l.length = i.size ∧ ∀ (E : Env) (w : World), RL E w l zv.cells.toList ∧ ∀ c ∈ l, c.one = true := by
  simp only [zeroAt, Option.bind_eq_bind, Option.bind_eq_some_iff] at h
  obtain ⟨i, hi, zv, hz, v, hv, h⟩ := h
  split at h
  · rename_i hc
    cases h
    exact ⟨i, zv, hi, hz, hc.2, hc.1, fun E w => (valAt_rv hv E w).cells (valAt_tup hv)⟩
  · cases h

theorem s_tobytes {t u e : TypeId} (ht : P.underlying t = some .string) (hu : P.underlying u = some (.slice e)) (he : P.underlying e = some (.int .u8)) (ho : o.op = .convert t u x) (hx : cod x = some cx) (rf : RF E w nt f a) (rh : RelH s.obj E w)
    (h : opToBytes cx call f s = .ok r s') : s' = s ∧ Out P (execOp a.eval o) n n' s.obj E w r s.obj := by
  have h1 := cod_rv hx rf
  obtain ⟨l, hv, h⟩ := onStr_ok h
  obtain ⟨rfl, rfl⟩ := ok_inj h
  rw [hv] at h1
  obtain ⟨p, e1, hp⟩ := rv_str h1
  have hsz : ln l = p.size := by rw [ln_eq, size_data, hp]
  have hold := fun k (hk : k < w.heap.size) => Lib.bytesWorld_at_old w e p k hk
  have hws : w.heap.size ≤ (Lib.bytesWorld w e p).heap.size := by rw [Lib.bytesWorld_size]; omega
  let E' : Env := ⟨E.φ, fun k => E.I k ∨ k = w.heap.size, E.D⟩
  have hle : Le E w E' (Lib.bytesWorld w e p) := ⟨fun _ h => h, fun _ _ => rfl, fun _ h => .inl h, fun k hk => hold k (rh.seen k hk), .of_old hold⟩
  refine ⟨rfl, E', Lib.bytesWorld w e p, .slice (some ⟨w.heap.size, 0, none⟩) p.size (grownCap w p.size 0 e), .inl ?_, rel_keep rh hle hold hws ?_, ?_, ?_⟩
  · simp [execOp, ho, e1, Lib.run_convert_string_bytes w t u e p ht hu he]
  · rintro k (hk | rfl)
    · exact .inl hk
    · exact .inr ⟨Nat.le_refl _, by rw [Lib.bytesWorld_size]; omega⟩
  · rw [hsz]
    have hb := bytes_rl E' (Lib.bytesWorld w e p) l
    refine RV.ts (E := E') (byteCells l) _ _ _ _ w.heap.size 0 (l.map fun c => Value.int .u8 (c.toNat : Int)) (fun _ => .inr rfl) hb.1.len (fun j u hj => ?_) hb.1.each hb.2 (grownCap_ge w p.size 0 e) (grownCap_ge w p.size 0 e) (fun h => by cases h)
    rw [List.getElem?_map, Option.map_eq_some_iff] at hj
    obtain ⟨c, hc, rfl⟩ := hj
    have hlt : j < l.length := (List.getElem?_eq_some_iff.mp hc).1
    rw [Nat.zero_add, Lib.bytesWorld_cell w e p j (by rw [← hsz, ln_eq]; exact hlt), hp, List.getD, hc]
    rfl
  · exact ⟨fun _ h => h, fun _ _ => rfl, fun _ h => .inl h, fun _ h => .inl h, fun k hk => hk.imp id (fun h => .inl (by rw [h]; exact Nat.le_refl _)), rfl, rfl, rfl, hws, fun k hk _ => hold k hk, .of_old hold, fun b hb => .inl ⟨b, hb, rfl⟩⟩

theorem s_box {t : TypeId} (ho : o.op = .box t x) (hx : cod x = some cx) (rf : RF E w nt f a) (rh : RelH s.obj E w) (hf : ¬ E.D s.n)
    (h : opBox cx call f s = .ok r s') : s'.n.val = s.n.val + 1 ∧ Out P (execOp a.eval o) s.n.val (s.n.val + 1) s.obj E w r s'.obj := by
  have h1 := cod_rv hx rf
  obtain ⟨l, hl, ht, hh⟩ := lay_ok h
  obtain ⟨s1, hn, hs1, hh⟩ := alloc_ok hh
  obtain ⟨rfl, rfl⟩ := ok_inj hh
  obtain ⟨hc, hone⟩ := h1.cells ht
  rw [← hl] at hc hone
  refine ⟨hn, Out.row (us := (a.eval x).cells.toList) (more := []) (w' := w.alloc (.cells (a.eval x).cells t)) (v := .pointer (some ⟨w.heap.size, 0, none⟩)) (e := t) ?_ rh hf hs1 ?_ rfl rfl rfl hc hone (fun E' hle hD hφ => ?_)⟩
  · simp [execOp, ho, Instr.box, newVar, newRow]
  · simp [World.alloc, -World.alloc_eq]
  · have := RV.ptr (E := E') (w := w.alloc (.cells (a.eval x).cells t)) s.n 0 hD
    rwa [hφ] at this
theorem s_alloc {t : TypeId} {l : List AV} (hz : zeroAt P t = some l) (ho : o.op = .alloc t) (rf : RF E w nt f a) (rh : RelH s.obj E w) (hf : ¬ E.D s.n)
    (h : opAlloc l call f s = .ok r s') : s'.n.val = s.n.val + 1 ∧ Out P (execOp a.eval o) s.n.val (s.n.val + 1) s.obj E w r s'.obj := by
  obtain ⟨i, zv, hi, hzv, _, _, hrow⟩ := zeroAt_ok hz
  obtain ⟨s1, hn, hs1, hh⟩ := alloc_ok h
  obtain ⟨rfl, rfl⟩ := ok_inj hh
  refine ⟨hn, Out.row (us := zv.cells.toList) (more := []) (w' := w.alloc (.cells zv.cells t)) (v := .pointer (some ⟨w.heap.size, 0, none⟩)) (e := t) ?_ rh hf hs1 ?_ rfl rfl rfl (hrow E w).1 (hrow E w).2 (fun E' hle hD hφ => ?_)⟩
  · simp [execOp, ho, Instr.alloc, newVar, newRow, zeroValue, typeInfo, hi, hzv]
  · simp [World.alloc, -World.alloc_eq]
  · have := RV.ptr (E := E') (w := w.alloc (.cells zv.cells t)) s.n 0 hD
    rwa [hφ] at this
theorem s_mkmap {t : TypeId} (ho : o.op = .makeMap t none) (rf : RF E w nt f a) (rh : RelH s.obj E w) (hf : ¬ E.D s.n)
    (h : opMkmap call f s = .ok r s') : s'.n.val = s.n.val + 1 ∧ Out P (execOp a.eval o) s.n.val (s.n.val + 1) s.obj E w r s'.obj := by
  obtain ⟨s1, hn, hs1, hh⟩ := alloc_ok h
  obtain ⟨rfl, rfl⟩ := ok_inj hh
  refine ⟨hn, Out.make (w' := w.alloc (.map #[] 0)) (v := .map (some w.heap.size)) ?_ rh hf hs1 rfl rfl rfl rfl (fun E' hle hφ => ⟨(fun cs hcs => by cases hcs), fun es hes => ?_⟩) (fun E' hle hD hφ => ?_)⟩
  · simp [execOp, ho, Instr.makeMap]
  · cases hes
    refine ⟨#[], 0, ?_, RL.nil _ _, RL.nil _ _, ⟨fun i e h => by simp at h, fun i j e e' h => by simp at h⟩⟩
    rw [hφ]; simp [World.alloc, -World.alloc_eq]
  · have := RV.map (E := E') (w := w.alloc (.map #[] 0)) s.n hD
    rwa [hφ] at this
theorem reps_rl {E : Env} {w : World} {cs : List AV} {us : List Value} (h : RL E w cs us) (m : Nat) : RL E w (reps m cs) (reps m us) := by
  induction m with
  | zero => exact RL.nil _ _
  | succ m ih =>
    show RL E w (apd cs (reps m cs)) (apd us (reps m us))
    rw [apd_eq, apd_eq]; exact h.append ih
theorem reps_one {cs : List AV} (h : ∀ c ∈ cs, c.one = true) (m : Nat) : ∀ c ∈ reps m cs, c.one = true := by
  induction m with
  | zero => intro c hc; cases hc
  | succ m ih =>
    intro c hc
    have hc' : c ∈ apd cs (reps m cs) := hc
    rw [apd_eq, List.mem_append] at hc'
    exact hc'.elim (h c) (ih c)
theorem madeCells_reps (z : Array Value) (m : Nat) : (madeCells z (m * z.size)).toList = reps m z.toList := by
  apply List.ext_getElem?
  intro j
  by_cases hj : j < m * z.size
  · have hz : 0 < z.size := by
      rcases Nat.eq_zero_or_pos z.size with h | h
      · rw [h, Nat.mul_zero] at hj; omega
      · exact h
    rw [reps_get _ _ _ (by rw [Array.length_toList]; exact hj)]
    have : j % z.size < z.size := Nat.mod_lt _ hz
    simp [madeCells, hj, this]
  · rw [List.getElem?_eq_none (by simp [madeCells]; omega), List.getElem?_eq_none (by rw [reps_length, Array.length_toList]; omega)]
theorem s_mksl {t e : TypeId} {l : List AV} {i : TypeInfo} (ht : P.underlying t = some (.slice e)) (hi : P.info? e = some i) (hz : zeroAt P e = some l) (ho : o.op = .makeSlice t x y) (hx : cod x = some cx) (hy : cod y = some cy) (rf : RF E w nt f a) (rh : RelH s.obj E w) (hf : ¬ E.D s.n)
    (h : opMksl i.bytes l cx cy call f s = .ok r s') : s'.n.val = s.n.val + 1 ∧ Out P (execOp a.eval o) s.n.val (s.n.val + 1) s.obj E w r s'.obj := by
  have h1 := cod_rv hx rf
  have h2 := cod_rv hy rf
  obtain ⟨j, m, hv, hm, hh⟩ := idx_ok h
  obtain ⟨k, c, hv2, hc, hh⟩ := idx_ok hh
  obtain ⟨hle1, hh⟩ := br_ok hh
  obtain ⟨hle2, hh⟩ := br_ok hh
  obtain ⟨s1, hn, hs1, hh⟩ := alloc_ok hh
  obtain ⟨rfl, rfl⟩ := ok_inj hh
  rw [hv] at h1; rw [hv2] at h2
  have e1 := rv_int h1
  have e2 := rv_int h2
  obtain ⟨i', zv, hi', hzv, hpos, hlen, hrow⟩ := zeroAt_ok hz
  rw [hi] at hi'; cases hi'
  have hle1' : m ≤ c := Nat.le_of_ble_eq_true hle1
  have hle2' : c * i.bytes ≤ limit := Nat.le_of_ble_eq_true hle2
  have hzs : zv.cells.size = i.size := by rw [← hlen, ← (hrow E w).1.len, Array.length_toList]
  have hrun := run_make (P := P) w t e i zv ht hi hzv j k (m : Int) (c : Int) (by omega) (by omega) (by unfold limit at hle2'; rw [← Int.natCast_mul, Nat.mul_comm]; omega) (by unfold limit at hc; omega)
  simp only [Int.toNat_natCast] at hrun
  refine ⟨hn, Out.row (us := reps c zv.cells.toList) (more := []) (w' := w.alloc (.cells (madeCells zv.cells (c * i.size)) e)) (v := .slice (some ⟨w.heap.size, 0, none⟩) m c) (e := e) ?_ rh hf hs1 ?_ rfl rfl rfl (reps_rl (hrow E w).1 c) (reps_one (hrow E w).2 c) (fun E' hle hD hφ => ?_)⟩
  · simp [execOp, ho, e1, e2, hrun]
  · have : madeCells zv.cells (c * i.size) = (reps c zv.cells.toList ++ []).toArray := by
      apply Array.ext'
      rw [← hzs, madeCells_reps]; simp
    rw [this]; rfl
  · have := RV.sl (E := E') (w := w.alloc (.cells (madeCells zv.cells (c * i.size)) e)) s.n 0 m c c 0 hD hle1' (Nat.le_refl _) (fun _ => rfl) (fun h => absurd rfl h)
    rwa [hφ] at this

theorem run_storeVar_vm {t : TypeId} {sz : Nat} (hs : sizeAt P t = some sz) {v : Value} (hv : v.cells.size = sz) (ad : Addr) (w : World) : (storeVar t ad v).run P w = (storeCells ad v.cells.toList).run P w := by
  simp [storeVar, run_sizeOf hs, hv]
theorem s_store {t : TypeId} {sz : Nat} (hs : sizeAt P t = some sz) (ho : o.op = .store t x y) (hx : cod x = some cx) (hy : cod y = some cy) (rf : RF E w nt f a) (rh : RelH s.obj E w)
    (h : opStore sz cx cy call f s = .ok r s') : s'.n = s.n ∧ Out P (execOp a.eval o) n n' s.obj E w r s'.obj := by
  have h1 := cod_rv hx rf
  have h2 := cod_rv hy rf
  rcases onPtr_ok h with ⟨b, off, hv, hh⟩ | ⟨cs, hv, hh⟩
  · rw [hv] at h1
    obtain ⟨cs, hcs, hh⟩ := onCells_ok hh
    obtain ⟨l, hl, htup, hh⟩ := lay_ok hh
    obtain ⟨c1, hh⟩ := br_ok hh
    obtain ⟨c2, hh⟩ := br_ok hh
    obtain ⟨rfl, rfl⟩ := ok_inj hh
    generalize hu : a.eval x = u at h1
    cases h1
    obtain ⟨hrow, hone⟩ := h2.cells htup
    rw [← hl] at hrow hone
    have e1 : l.length = sz := by have := Nat.eq_of_beq_eq_true c1; rwa [ln_eq] at this
    have e2 : off + sz ≤ cs.length := by have := Nat.le_of_ble_eq_true c2; rwa [ln_eq] at this
    have e3 : (a.eval y).cells.size = sz := by rw [← e1, ← hrow.len, Array.length_toList]
    obtain ⟨w', k1, k2, k3, k4⟩ := write_row (P := P) (s' := s.put b (.cells (splice off l cs))) n n' rh hcs (fun c => St.obj_put s b c _) hrow hone (by omega)
    refine ⟨by simp, E, w', Go.undef, .inr ⟨?_, rfl⟩, k3, RV.undef E w', k4⟩
    simp [execOp, ho, hu, Instr.storeAt, Instr.sureAddr, run_storeVar_vm hs e3, k1]
  · exact R.noConfusion hh
end
end Go.Vm
namespace Go.Vm
set_option linter.unusedVariables false
variable {P : Program}
section
variable {E : Env} {w : World} {nt : Nat} {f : Fr AV} {a : Act} {s s' : St} {r : AV} {call : CallT} {n n' : Nat} {o : Oper} {x y z : Operand} {cx cy cz : CO}
theorem fill_ok (place : Nat → Option (Nat × Nat)) (rf : RF E w nt f a) {ps : List (Nat × Operand)} {cps : List Part} (hp : partsAt place ps = some cps) {l : List AV} {cells : Array Value} (hrow : RL E w l cells.toList) (h1 : ∀ c ∈ l, c.one = true) {k : List AV → R}
    (h : fill f cps l k = .ok r s') : ∃ l' cells', Instr.fill place cells (ps.map fun p => (p.1, a.eval p.2)) = some cells' ∧ RL E w l' cells'.toList ∧ (∀ c ∈ l', c.one = true) ∧ l'.length = l.length ∧ k l' = .ok r s' := by
  induction ps generalizing cps l cells with
  | nil =>
    simp only [partsAt, Option.some.injEq] at hp
    subst hp
    exact ⟨l, cells, rfl, hrow, h1, rfl, h⟩
  | cons p ps ih =>
    obtain ⟨i, x⟩ := p
    simp only [partsAt, Option.bind_eq_bind, Option.bind_eq_some_iff, Option.some.injEq] at hp
    obtain ⟨⟨off, sz⟩, hpl, c, hc, rest, hrest, rfl⟩ := hp
    have hv := cod_rv hc rf
    obtain ⟨m, hm, htup, hh⟩ := lay_ok (v := ev1 f c) (k := fun m => br (Nat.beq (ln m) sz) (br (Nat.ble (Nat.add off sz) (ln l)) (fill f rest (splice off m l) k) .no) .no) h
    obtain ⟨c1, hh⟩ := br_ok hh
    obtain ⟨c2, hh⟩ := br_ok hh
    obtain ⟨hvc, hvo⟩ := hv.cells htup
    rw [← hm] at hvc hvo
    have e1 : m.length = sz := by have := Nat.eq_of_beq_eq_true c1; rwa [ln_eq] at this
    have e2 : off + sz ≤ l.length := by have := Nat.le_of_ble_eq_true c2; rwa [ln_eq] at this
    have e3 : (a.eval x).cells.size = sz := by rw [← e1, ← hvc.len, Array.length_toList]
    have e4 : cells.size = l.length := by rw [← hrow.len, Array.length_toList]
    have hfold := Great.foldl_set off (a.eval x).cells.toList 0 cells
    generalize hcs' : ((a.eval x).cells.toList.zipIdx 0).foldl (fun cs (x : Value × Nat) => cs.setIfInBounds (off + x.2) x.1) cells = cells' at hfold
    have hcells : cells'.toList = splice off (a.eval x).cells.toList cells.toList := by
      apply List.ext_getElem?
      intro j
      rw [Array.getElem?_toList, hfold.2 j, splice_get]
      simp only [Nat.add_zero, Array.length_toList, e3, e4]
      by_cases hj : j < l.length
      · rw [if_pos hj]
        by_cases h2 : off ≤ j ∧ j < off + sz
        · rw [if_pos ⟨h2.1, h2.2, hj⟩, if_pos h2]
        · rw [if_neg (fun h => h2 ⟨h.1, h.2.1⟩), if_neg h2, Array.getElem?_toList]
      · rw [if_neg hj, if_neg (fun h => hj h.2.2), Array.getElem?_eq_none (by omega)]
    obtain ⟨l', cs', k1, k2, k3, k4, k5⟩ := ih hrest (l := splice off m l) (cells := cells') (by rw [hcells]; exact hrow.splice hvc off) (fun d hd => (splice_mem hd).elim (hvo d) (h1 d)) hh
    refine ⟨l', cs', ?_, k2, k3, by rw [k4, splice_length], k5⟩
    rw [← k1]
    have hz : (a.eval x).cells.zipIdx.foldl (fun cs (x : Value × Nat) => cs.setIfInBounds (off + x.2) x.1) cells = cells' := by
      rw [← hcs', ← Array.foldl_toList, Array.toList_zipIdx]
    simp only [List.map_cons, Instr.fill, hpl]
    rw [if_neg (by simp [e3, e4]; omega)]
    have hz' : (Array.foldl (fun cs x => match x with | (c, j) => cs.setIfInBounds (off + j) c) cells (a.eval x).cells.zipIdx) = cells' := hz
    rw [hz']
theorem s_build {t : TypeId} {fs : Array Field} {l : List AV} {places : List (Nat × Nat)} {ps : Array (Nat × Operand)} {cps : List Part} (hz : zeroAt P t = some l) (ht : P.underlying t = some (.struct fs)) (hpl : fs.toList.mapM (fun f => (P.info? f.type).map fun i => (f.offset, i.size)) = some places)
    (hp : partsAt (places.toArray[·]?) ps.toList = some cps) (ho : o.op = .build t ps) (rf : RF E w nt f a) (rh : RelH s.obj E w) (h : opBuild l cps call f s = .ok r s') : s' = s ∧ Out P (execOp a.eval o) n n' s.obj E w r s.obj := by
  obtain ⟨i, zv, hi, hzv, _, _, hrow⟩ := zeroAt_ok hz
  obtain ⟨l', cs', k1, k2, k3, _, k5⟩ := fill_ok _ rf hp (hrow E w).1 (hrow E w).2 h
  obtain ⟨rfl, rfl⟩ := ok_inj k5
  have hb : P.built t (ps.map fun (i, x) => (i, a.eval x)).toList = some cs' := by
    simp only [Program.built, hi, ht, hzv, hpl]
    rw [← k1]; congr 1; simp
  have hrun := run_build (P := P) w t (ps.map fun (i, x) => (i, a.eval x)) cs' hb
  refine ⟨rfl, .same (v := .agg cs') ?_ rh ?_⟩
  · simp only [execOp, ho]
    simp [hrun]
  · have := RV.agg (E := E) (w := w) l' cs'.toList k2.len k2.each k3
    simpa using this
theorem s_abuild {t e : TypeId} {m sz : Nat} {l : List AV} {ps : Array (Nat × Operand)} {cps : List Part} (hz : zeroAt P t = some l) (ht : P.underlying t = some (.array m e)) (hs : sizeAt P e = some sz)
    (hp : partsAt (fun i => some (i * sz, sz)) ps.toList = some cps) (ho : o.op = .build t ps) (rf : RF E w nt f a) (rh : RelH s.obj E w) (h : opBuild l cps call f s = .ok r s') : s' = s ∧ Out P (execOp a.eval o) n n' s.obj E w r s.obj := by
  obtain ⟨i, zv, hi, hzv, _, _, hrow⟩ := zeroAt_ok hz
  obtain ⟨l', cs', k1, k2, k3, _, k5⟩ := fill_ok _ rf hp (hrow E w).1 (hrow E w).2 h
  obtain ⟨rfl, rfl⟩ := ok_inj k5
  have hb : P.built t (ps.map fun (i, x) => (i, a.eval x)).toList = some cs' := by
    cases hie : P.info? e with
    | none => unfold sizeAt at hs; rw [hie] at hs; cases hs
    | some ie =>
      have hsz : ie.size = sz := by unfold sizeAt at hs; rw [hie] at hs; simpa using hs
      simp only [Program.built, hi, ht, hzv, hie, hsz]
      rw [← k1]; congr 1; simp
  have hrun := run_build (P := P) w t (ps.map fun (i, x) => (i, a.eval x)) cs' hb
  refine ⟨rfl, .same (v := .agg cs') ?_ rh ?_⟩
  · simp only [execOp, ho]
    simp [hrun]
  · have := RV.agg (E := E) (w := w) l' cs'.toList k2.len k2.each k3
    simpa using this
theorem s_blit {t e : TypeId} {len sz : Nat} {l : List AV} {ps : Array (Nat × Operand)} {cps : List Part} (ht : P.underlying t = some (.slice e)) (hs : sizeAt P e = some sz) (hz : zeroAt P e = some l) (hlen : len * sz ≤ 16777216)
    (hp : partsAt (fun i => some (i * sz, sz)) ps.toList = some cps) (ho : o.op = .buildSlice t len ps) (rf : RF E w nt f a) (rh : RelH s.obj E w) (hf : ¬ E.D s.n)
    (h : opBlit len l cps call f s = .ok r s') : s'.n.val = s.n.val + 1 ∧ Out P (execOp a.eval o) s.n.val (s.n.val + 1) s.obj E w r s'.obj := by
  obtain ⟨i, zv, hi, hzv, hpos, hll, hrow⟩ := zeroAt_ok hz
  simp only [sizeAt, Option.map_eq_some_iff] at hs
  obtain ⟨i', hi', hs'⟩ := hs
  rw [hi] at hi'; cases hi'
  have hzs : zv.cells.size = sz := by rw [← hs', ← hll, ← (hrow E w).1.len, Array.length_toList]
  have hmade : (madeCells zv.cells (len * sz)).toList = reps len zv.cells.toList := by rw [← hzs]; exact madeCells_reps zv.cells len
  obtain ⟨l', cs', k1, k2, k3, k4, k5⟩ := fill_ok _ rf hp (l := reps len l) (cells := madeCells zv.cells (len * sz)) (by rw [hmade]; exact reps_rl (hrow E w).1 len) (reps_one (hrow E w).2 len) h
  obtain ⟨s1, hn, hs1, hh⟩ := alloc_ok k5
  obtain ⟨rfl, rfl⟩ := ok_inj hh
  have hrun : (Instr.buildSlice t len (ps.map fun (i, x) => (i, a.eval x))).run P w = .ok (.slice (some ⟨w.heap.size, 0, none⟩) len len) (w.alloc (.cells cs' e)) := by
    by_cases hl0 : len = 0
    · subst hl0
      have hps : ps.toList = [] := by
        cases hq : ps.toList with
        | nil => rfl
        | cons p r =>
          exfalso
          rw [hq] at k1
          simp only [List.map_cons, Instr.fill] at k1
          split at k1
          · cases k1
          · rename_i hc
            have h3 : (a.eval p.2).cells.size = sz := Decidable.byContradiction fun hne => hc (by simp [hne])
            have h4 : p.1 * sz + (a.eval p.2).cells.size ≤ 0 := Decidable.byContradiction fun hgt => hc (by
              rw [size_madeCells]
              have : p.1 * sz + (a.eval p.2).cells.size > 0 * sz := by omega
              simp only [this, decide_true, Bool.or_true])
            omega
      rw [hps] at k1
      have hcs : cs' = madeCells zv.cells (0 * sz) := by simpa [Instr.fill] using k1.symm
      have hps' : ps = #[] := by rw [← Array.toArray_toList (xs := ps), hps]
      subst hps'
      simp [Instr.buildSlice, run_underlying ht, sizeOf, typeInfo, hi, Instr.fill, newRow, hcs, madeCells, Array.range_zero']
    · have hne : ¬ len * i.size = 0 := by rw [hs']; exact Nat.mul_ne_zero hl0 (by omega)
      refine run_buildSlice w t e len _ cs' i zv ht hi hzv (by rw [hs']; omega) hne ?_
      rw [hs']
      have hmm : ((Array.range (len * sz)).map (zv.cells[· % zv.cells.size]!)) = madeCells zv.cells (len * sz) := rfl
      rw [hmm, ← k1]; congr 1; simp
  refine ⟨hn, Out.row (us := cs'.toList) (more := []) (w' := w.alloc (.cells cs' e)) (v := .slice (some ⟨w.heap.size, 0, none⟩) len len) (e := e) ?_ rh hf hs1 ?_ rfl rfl rfl k2 k3 (fun E' hle hD hφ => ?_)⟩
  · simp only [execOp, ho]
    simp [hrun]
  · simp [World.alloc, -World.alloc_eq]
  · have := RV.sl (E := E') (w := w.alloc (.cells cs' e)) s.n 0 len len len 0 hD (Nat.le_refl _) (Nat.le_refl _) (fun _ => rfl) (fun h => absurd rfl h)
    rwa [hφ] at this
end
end Go.Vm
namespace Go.Vm
set_option linter.unusedVariables false
variable {P : Program}
section
variable {E : Env} {w : World} {nt : Nat} {f : Fr AV} {a : Act} {s s' : St} {r : AV} {call : CallT} {n n' : Nat} {o : Oper} {x y z : Operand} {cx cy cz : CO}
theorem mput_ok {str : Bool} {d : TypeDesc} (hd : (str = true ∧ d = .string) ∨ (str = false ∧ ∃ k, d = .int k)) {c : AV} {u : Value} (h1 : RV E w c u) (hk : ∀ R0 : R, isKey str c R0 = R0) {es : List (AV × AV)} {ms : List MapEntry} {v : AV} {k : List (AV × AV) → R}
    (hks : RL E w (es.map (·.1)) (ms.map (·.key))) (i : Nat) (h : mput es c v k = .ok r s') :
    (Instr.findNow d u ms i = some none ∧ k (es ++ [(c, v)]) = .ok r s') ∨ ∃ (j : Nat) (e : MapEntry), Instr.findNow d u ms i = some (some (i + j, e.val)) ∧ ms[j]? = some e ∧ Instr.sameNow d u e.key = some true ∧ k (es.set j (c, v)) = .ok r s' := by
  induction es generalizing ms i k with
  | nil =>
    have : ms = [] := List.eq_nil_of_length_eq_zero (by simpa using hks.len)
    subst this
    exact .inl ⟨rfl, h⟩
  | cons e es ih =>
    obtain ⟨b, v'⟩ := e
    cases ms with
    | nil => have := hks.len; simp at this
    | cons m ms =>
      obtain ⟨_, _, e1, g1, g2⟩ := RL.cons_inv (show RL E w (b :: es.map (·.1)) (m.key :: ms.map (·.key)) from hks)
      cases e1
      rcases keyEq_ok hd h1 g1 hk (show keyEq c b .no (k ((c, v) :: es)) (mput es c v fun q => k ((b, v') :: q)) = .ok r s' from h) with ⟨k1, k2⟩ | ⟨k1, k2⟩
      · exact .inr ⟨0, m, by simp [Instr.findNow, k1], rfl, k1, k2⟩
      · rcases ih g2 (i + 1) k2 with ⟨k3, k4⟩ | ⟨j, e, k3, k4, k5, k6⟩
        · exact .inl ⟨by simp only [Instr.findNow, k1]; exact k3, k4⟩
        · exact .inr ⟨j + 1, e, by simp only [Instr.findNow, k1]; rw [k3]; congr 3; omega, by simpa using k4, k5, k6⟩
theorem sameBits_of {d : TypeDesc} {u v : Value} (h : Instr.sameNow d u v = some true) : Instr.sameBits 10000 v u = true := by
  unfold Instr.sameNow at h
  split at h
  · split at h
    · rename_i e
      subst e
      have := Option.some.inj h
      simp only [beq_iff_eq] at this
      subst this
      simp [Instr.sameBits]
    · cases h
  · rename_i a b
    have h' := Option.some.inj h
    have h0 : (a == b) = (a.data == b.data) := by cases a; cases b; rfl
    rw [h0, beq_iff_eq] at h'
    have : a = b := by cases a; cases b; simp_all
    subst this
    have h1 : (a == a) = (a.data == a.data) := by cases a; rfl
    simp [Instr.sameBits, h1]
  · rename_i a b
    have := Option.some.inj h
    simp only [beq_iff_eq] at this
    subst this
    simp [Instr.sameBits]
  · cases h
theorem RL.set {cs : List AV} {us : List Value} (h : RL E w cs us) {c : AV} {u : Value} (hc : RV E w c u) (j : Nat) : RL E w (cs.set j c) (us.set j u) := by
  refine ⟨by simp [h.len], fun i c' u' h1 h2 => ?_⟩
  rw [List.getElem?_set] at h1 h2
  by_cases hij : j = i
  · subst hij
    rw [if_pos rfl] at h1 h2
    split at h1 <;> split at h2 <;> first | (cases h1; cases h2; exact hc) | (cases h1; done) | (cases h2; done)
  · rw [if_neg hij] at h1 h2; exact h.each i c' u' h1 h2
theorem modify_lists (ms : Array MapEntry) (j : Nat) (k v : Value) : ((ms.modify j fun e => { e with key := k, val := v }).toList.map (·.key)) = (ms.toList.map (·.key)).set j k ∧ ((ms.modify j fun e => { e with key := k, val := v }).toList.map (·.val)) = (ms.toList.map (·.val)).set j v := by
  constructor
  all_goals
    apply List.ext_getElem?
    intro i
    simp only [List.getElem?_map, Array.getElem?_toList, Array.getElem?_modify, List.getElem?_set]
    by_cases hij : j = i
    · subst hij
      by_cases hl : j < ms.size
      · simp [hl]
      · simp [hl]
    · simp [hij]
theorem born_push {ms : Array MapEntry} {cl : Nat} (h : Born ms cl) (k v : Value) : Born (ms.push { key := k, val := v, born := cl }) (cl + 1) := by
  refine ⟨fun i e hi => ?_, fun i j e e' hi hj hb => ?_⟩
  · rw [Array.getElem?_push] at hi
    split at hi
    · cases hi; exact Nat.lt_succ_self _
    · exact Nat.lt_succ_of_lt (h.lt i e hi)
  · rw [Array.getElem?_push] at hi hj
    split at hi <;> split at hj
    · omega
    · cases hi; have := h.lt j e' hj; simp only at hb; omega
    · cases hj; have := h.lt i e hi; simp only at hb; omega
    · exact h.inj i j e e' hi hj hb
theorem born_modify {ms : Array MapEntry} {cl : Nat} (h : Born ms cl) (j : Nat) (k v : Value) : Born (ms.modify j fun e => { e with key := k, val := v }) cl := by
  have get : ∀ (i : Nat) (e : MapEntry), (ms.modify j fun e => { e with key := k, val := v })[i]? = some e → ∃ e0, ms[i]? = some e0 ∧ e0.born = e.born := by
    intro i e hi
    rw [Array.getElem?_modify] at hi
    split at hi
    · cases hm : ms[i]? with
      | none => rw [hm] at hi; cases hi
      | some e0 => rw [hm] at hi; cases hi; exact ⟨e0, rfl, rfl⟩
    · exact ⟨e, hi, rfl⟩
  refine ⟨fun i e hi => ?_, fun i i' e e' hi hj hb => ?_⟩
  · obtain ⟨e0, h1, h2⟩ := get i e hi
    rw [← h2]; exact h.lt i e0 h1
  · obtain ⟨e0, h1, h2⟩ := get i e hi
    obtain ⟨e1, h3, h4⟩ := get i' e' hj
    exact h.inj i i' e0 e1 h1 h3 (by rw [h2, h4]; exact hb)
theorem s_mupd {t kt e : TypeId} {d : TypeDesc} {str : Bool} (ht : P.underlying t = some (.map kt e)) (hkt : P.underlying kt = some d) (hd : (str = true ∧ d = .string) ∨ (str = false ∧ ∃ k, d = .int k))
    (ho : o.op = .mapUpdate t x y z) (hx : cod x = some cx) (hy : cod y = some cy) (hz : cod z = some cz) (rf : RF E w nt f a) (rh : RelH s.obj E w)
    (h : opMupd str cx cy cz call f s = .ok r s') : s'.n = s.n ∧ Out P (execOp a.eval o) n n' s.obj E w r s'.obj := by
  have h1 := cod_rv hx rf
  have h2 := cod_rv hy rf
  have h3 := cod_rv hz rf
  obtain ⟨hk, hh⟩ := isKey_ok h
  rcases onMap_ok hh with ⟨hv, hh⟩ | ⟨b, hv, hh⟩ | hh
  · exact R.noConfusion hh
  · rw [hv] at h1
    obtain ⟨es, he, hh⟩ := onMapO_ok hh
    obtain ⟨ms, cl, H⟩ := rh.map b es he
    have hne : s.obj b ≠ .dead := by rw [he]; intro h; cases h
    generalize hu : a.eval x = u at h1
    cases h1
    have hlt : (E.φ b).block < w.heap.size := (Array.getElem?_eq_some_iff.mp H.heap).1
    have hgo : (getObj (E.φ b).block).run P w = .ok (.map ms cl) w := by simp [getObj, Sem.run, H.heap]
    -- what the new map says
    have key : ∀ (es' : List (AV × AV)) (ms' : Array MapEntry) (cl' : Nat) (w' : World), w' = { w with heap := w.heap.setIfInBounds (E.φ b).block (.map ms' cl') } → RL E w (es'.map (·.1)) (ms'.toList.map (·.key)) → RL E w (es'.map (·.2)) (ms'.toList.map (·.val)) → Born ms' cl' →
        (Instr.mapUpdate t (.map (some (E.φ b).block)) (a.eval y) (a.eval z)).run P w = .ok () w' → R.ok undef (s.put b (.map es')) = .ok r s' → s'.n = s.n ∧ Out P (execOp a.eval o) n n' s.obj E w r s'.obj := by
      intro es' ms' cl' w' hw' g1 g2 gb g3 g4
      obtain ⟨rfl, rfl⟩ := ok_inj g4
      have hat : w'.heap[(E.φ b).block]? = some (.map ms' cl') := by rw [hw']; simp [hlt]
      have hot : ∀ k, k ≠ (E.φ b).block → w'.heap[k]? = w.heap[k]? := fun k hk => by rw [hw']; simp [Ne.symm hk]
      have hle : Le E w E w' := ⟨fun _ h => h, fun _ _ => rfl, fun _ h => h, fun k hk => hot k (fun he => rh.apart b hne (by rw [← he]; exact hk)), fun k c e fr hk => by
        by_cases hkb : k = (E.φ b).block
        · subst hkb; rw [H.heap] at hk; cases hk
        · exact ⟨c, fr, by rw [hot k hkb]; exact hk, rfl⟩⟩
      have hsz : w.heap.size ≤ w'.heap.size := by rw [hw']; simp
      refine ⟨by simp, E, w', Go.undef, .inr ⟨by simp [execOp, ho, hu, g3], rfl⟩, rel_step rh hle b (rh.old b hne) (fun cs hcs => ?_) (fun es2 hes => ?_) (fun c hc hcd => ?_) (rh.apart b hne) (fun _ h => h) hsz, RV.undef E w', ?_⟩
      · rw [St.obj_put, if_pos rfl] at hcs; cases hcs
      · rw [St.obj_put, if_pos rfl] at hes; cases hes
        exact ⟨ms', cl', hat, g1.mono hle, g2.mono hle, gb⟩
      · rw [St.obj_put, if_neg hc] at hcd
        exact ⟨by rw [St.obj_put, if_neg hc], hot _ (fun he => rh.inj c b hcd hne hc he), fun he => rh.inj b c hne hcd (fun h => hc h.symm) he⟩
      · refine ⟨fun _ h => h, fun _ _ => rfl, fun _ h => .inl h, fun _ h => h, fun _ h => .inl h, by rw [hw'], by rw [hw'], by rw [hw'], hsz, fun k hk hkb => hot k (fun he => hkb b hne he.symm), hle.shape, fun c hc => ?_⟩
        by_cases hcb : c = b
        · subst hcb; exact .inl ⟨c, hne, rfl⟩
        · rw [St.obj_put, if_neg hcb] at hc; exact .inl ⟨c, hc, rfl⟩
    rcases mput_ok hd h2 hk H.keys 0 hh with ⟨k1, k2⟩ | ⟨j, e', k1, k2, k3, k4⟩
    · refine key _ (ms.push { key := a.eval y, val := a.eval z, born := cl }) (cl + 1) _ rfl ?_ ?_ (born_push H.born _ _) ?_ k2
      · simpa using H.keys.append (RL.cons h2 (RL.nil _ _))
      · simpa using H.vals.append (RL.cons h3 (RL.nil _ _))
      · simp [Instr.mapUpdate, run_underlying ht, hgo, run_checkKey_vm hkt hd, Instr.findKey, run_underlying hkt, k1, MapKept.run_setObj_map _ H.heap]
    · have hme : ms[j]? = some e' := by rw [← Array.getElem?_toList]; exact k2
      have hkeep : (Instr.keyThatStays e'.key (a.eval y)).run P w = .ok (a.eval y) w := by simp [Instr.keyThatStays, sameBits_of k3]
      refine key _ (ms.modify j fun e => { e with key := a.eval y, val := a.eval z }) cl _ rfl ?_ ?_ (born_modify H.born _ _ _) ?_ k4
      · rw [(modify_lists ms j _ _).1, List.map_set]; exact H.keys.set h2 j
      · rw [(modify_lists ms j _ _).2, List.map_set]; exact H.vals.set h3 j
      · simp only [Nat.zero_add] at k1
        simp [Instr.mapUpdate, run_underlying ht, hgo, run_checkKey_vm hkt hd, Instr.findKey, run_underlying hkt, k1, hme, hkeep, MapKept.run_setObj_map _ H.heap]
  · exact R.noConfusion hh
end
end Go.Vm
namespace Go.Vm
set_option linter.unusedVariables false
variable {P : Program}
section
variable {E : Env} {w : World} {nt : Nat} {f : Fr AV} {a : Act} {s s' : St} {r : AV} {call : CallT} {n n' : Nat} {o : Oper} {x y z : Operand} {cx cy cz : CO}
theorem srcOf_ok {sz : Nat} {tx : TypeId} (hk : (∃ e', P.underlying tx = some (.slice e')) ∨ P.underlying tx = some .string) (rh : RelH s.obj E w) {v : AV} {u : Value} (hv : RV E w v u) {k : Nat → List AV → R}
    (h : srcOf s sz v k = .ok r s') : ∃ (m : Nat) (new : List AV) (news : List Value), Src P sz tx u m news w ∧ RL E w new news ∧ (∀ c ∈ new, c.one = true) ∧ new.length = m * sz ∧ k m new = .ok r s' := by
  rcases onSl_ok h with ⟨e, hh⟩ | ⟨b, off, len, cap, ex, e, hh⟩ | ⟨cs, len, cap, ex, e, hh⟩ | ⟨hh, _⟩
  · subst e; cases hv
    exact ⟨0, [], [], ⟨hk, fun _ => rfl, run_firstCells_none w sz 0 0 0, run_firstCells_none w.drew sz 0 0 0, by simp, fun _ h => by cases h⟩, RL.nil _ _, fun c hc => (by cases hc), by simp, hh⟩
  · subst e
    obtain ⟨cs, hcs, hh⟩ := onCells_ok hh
    obtain ⟨hle, hh⟩ := br_ok hh
    obtain ⟨c, ty, us, H⟩ := rh.cells b cs hcs
    cases hv
    have hle' : off + len * sz ≤ cs.length := by have := Nat.le_of_ble_eq_true hle; rwa [ln_eq] at this
    rw [tk_eq, dr_eq] at hh
    have hrow := (H.row.drop off).take (len * sz)
    have hone : ∀ c ∈ (cs.drop off).take (len * sz), c.one = true := fun c hc => H.one c (List.mem_of_mem_drop (List.mem_of_mem_take hc))
    have hl : ((us.drop off).take (len * sz)).length = len * sz := by rw [hrow.len, List.length_take, List.length_drop]; omega
    have hcell : ∀ (j : Nat) (q : Value), ((us.drop off).take (len * sz))[j]? = some q → w.cell? ((⟨(E.φ b).block, (E.φ b).off + off, none⟩ : Addr).add j) = some q := fun j q hj => by
      rw [addr_add]
      rw [List.getElem?_take] at hj
      split at hj
      · rw [List.getElem?_drop] at hj; rw [Nat.add_assoc]; exact holds_cell H _ q hj
      · cases hj
    exact ⟨len, _, _, ⟨hk, fun _ => rfl, run_firstCells_some w sz len _ len _ _ hl hcell, run_firstCells_some w.drew sz len _ len _ _ hl (by simpa using hcell), hl, ones_of hrow hone⟩, hrow, hone, by rw [← hrow.len, hl], hh⟩
  · subst e
    obtain ⟨hle, hh⟩ := br_ok hh
    cases hv with | ts _ _ _ cap' _ g off us hI hl hc hr h1 hlen hcap hx hsp =>
    rename_i sp
    have hle' : len * sz ≤ cs.length := by have := Nat.le_of_ble_eq_true hle; rwa [ln_eq] at this
    rw [tk_eq] at hh
    have hrow0 : RL E w cs us := ⟨hl, hr⟩
    have hrow := hrow0.take (len * sz)
    have hone : ∀ c ∈ cs.take (len * sz), c.one = true := fun c hc => h1 c (List.mem_of_mem_take hc)
    have hl2 : (cs.take (len * sz)).length = len * sz := by rw [List.length_take]; omega
    have hl' : (us.take (len * sz)).length = len * sz := by rw [hrow.len, hl2]
    have hcell : ∀ (j : Nat) (q : Value), (us.take (len * sz))[j]? = some q → w.cell? ((⟨g, off, sp⟩ : Addr).add j) = some q := fun j q hj => by
      rcases hsp with rfl | ⟨_, _, rfl⟩
      · rw [addr_add]
        rw [List.getElem?_take] at hj
        split at hj
        · exact hc j q hj
        · cases hj
      · have : us = [] := List.eq_nil_of_length_eq_zero hl
        subst this; simp at hj
    exact ⟨len, _, _, ⟨hk, fun _ => rfl, run_firstCells_some w sz len _ len _ _ hl' hcell, run_firstCells_some w.drew sz len _ len _ _ hl' (by simpa using hcell), hl', ones_of hrow hone⟩, hrow, hone, hl2, hh⟩
  · obtain ⟨l, e, h2⟩ := onStr_ok hh
    subst e
    obtain ⟨hle, h3⟩ := br_ok h2
    have e1 : sz = 1 := Nat.eq_of_beq_eq_true hle
    subst e1
    obtain ⟨p, rfl, hp⟩ := rv_str hv
    have hln : ln l = p.size := by rw [ln_eq, size_data, hp]
    have hb := bytes_rl E w l
    rw [hln] at h3
    have hbc : Go.byteCells p = l.map fun c => Value.int .u8 (c.toNat : Int) := by rw [← hp]; rfl
    rw [← hbc] at hb
    exact ⟨p.size, _, _, ⟨hk, fun _ => rfl, firstCells_string p w, firstCells_string p w.drew, by rw [byteCells_length, Nat.mul_one], ones_of hb.1 hb.2⟩, hb.1, hb.2, by rw [← hb.1.len, byteCells_length, Nat.mul_one], h3⟩
theorem grown_ok {sz bytes m : Nat} {cs : List AV} (h : grown s sz bytes m cs = .ok r s') : m * bytes ≤ limit ∧ m ≤ limit ∧ s'.n.val = s.n.val + 1 ∧ (∀ c, s'.obj c = if c = s.n then .cells cs else s.obj c) ∧ r = .sl s.n 0 m m sz := by
  obtain ⟨h1, hh⟩ := br_ok h
  obtain ⟨h2, hh⟩ := br_ok hh
  obtain ⟨s1, hn, hs1, hh⟩ := alloc_ok hh
  obtain ⟨rfl, rfl⟩ := ok_inj hh
  exact ⟨Nat.le_of_ble_eq_true h1, Nat.le_of_ble_eq_true h2, hn, hs1, rfl⟩
theorem app_grow {t tx ty e : TypeId} {i : TypeInfo} {zv : Value} (ht : P.underlying t = some (.slice e)) (hi : P.info? e = some i) (hz : i.zero = some zv) (hpos : 0 < i.size) (hzs : zv.cells.size = i.size) {base : Option Addr} {sLen sCap : Nat} {old new : List AV} {olds news : List Value} {u : Value} {m : Nat}
    (hs : Src P i.size tx u m news w) (hnew : RL E w new news) (hnew1 : ∀ c ∈ new, c.one = true) (hold : RL E w old olds) (hold1 : ∀ c ∈ old, c.one = true) (holdl : olds.length = sLen * i.size)
    (hfirst : (Builtin.firstCells i.size sLen (.slice base sLen sCap)).run P w.drew = .ok olds.toArray w.drew) (hg : sCap < sLen + m) (rh : RelH s.obj E w) (hf : ¬ E.D s.n)
    (h : grown s i.size i.bytes (sLen + m) (old ++ new) = .ok r s') {md : Sem Next} (hrun : ∀ (v : Value) (w' : World), (Builtin.append_ #[t, tx] ty #[.slice base sLen sCap, u]).run P w = .ok v w' → md.run P w = .ok (.value v) w') :
    s'.n.val = s.n.val + 1 ∧ Out P md s.n.val (s.n.val + 1) s.obj E w r s'.obj := by
  obtain ⟨h1, h2, hn, hs1, rfl⟩ := grown_ok h
  have hlim : limit = 140737488355328 := rfl
  have hap := run_append_grow_src w t tx ty e i zv ht hi hz base sLen sCap olds hfirst u m news hs hg (by omega) (growslice_fits hg (by rw [hlim] at h1; exact h1))
  refine ⟨hn, Out.row (us := olds ++ news) (more := (Builtin.zeroCells zv.cells (grownCap w (sLen + m) sCap e - (sLen + m))).toList) (e := e) (hrun _ _ hap) rh hf hs1 ?_ rfl rfl rfl (hold.append hnew) (fun c hc => (List.mem_append.mp hc).elim (hold1 c) (hnew1 c)) (fun E' hle hD hφ => ?_)⟩
  · have : (olds ++ news).toArray ++ Builtin.zeroCells zv.cells (grownCap w (sLen + m) sCap e - (sLen + m)) = ((olds ++ news) ++ (Builtin.zeroCells zv.cells (grownCap w (sLen + m) sCap e - (sLen + m))).toList).toArray := by apply Array.ext'; simp
    rw [← this]; rfl
  · have hge := grownCap_ge w (sLen + m) sCap e
    have := RV.sl (E := E') (w := w.drew.alloc (.cells ((olds ++ news).toArray ++ Builtin.zeroCells zv.cells (grownCap w (sLen + m) sCap e - (sLen + m))) e)) s.n 0 (sLen + m) (sLen + m) (grownCap w (sLen + m) sCap e) i.size hD (Nat.le_refl _) hge
    rw [hφ] at this
    refine this (fun h0 => ?_) (fun _ => ⟨(olds ++ news).toArray ++ Builtin.zeroCells zv.cells (grownCap w (sLen + m) sCap e - (sLen + m)), e, (0, 0), by simp [World.alloc, World.drew, -World.alloc_eq, -World.drew_eq], ?_⟩)
    · omega
    · simp only [Array.size_append, List.size_toArray, List.length_append, size_zeroCells, hzs, holdl, hs.newsLen, ← Nat.add_mul]
      have : sLen + m + (grownCap w (sLen + m) sCap e - (sLen + m)) = grownCap w (sLen + m) sCap e := by omega
      rw [this]; omega
theorem run_append_room_vm {t tx ty e : TypeId} {i : TypeInfo} (ht : P.underlying t = some (.slice e)) (hi : P.info? e = some i) {b off sLen sCap : Nat} {u : Value} {m : Nat} {news : List Value} (hs : Src P i.size tx u m news w) (hroom : sLen + m ≤ sCap) {w' : World}
    (hst : (storeCells ⟨b, off + sLen * i.size, none⟩ news).run P w = .ok () w') : (Builtin.append_ #[t, tx] ty #[.slice (some ⟨b, off, none⟩) sLen sCap, u]).run P w = .ok (.slice (some ⟨b, off, none⟩) (sLen + m) sCap) w' := by
  rcases hs.kind with ⟨e', hk⟩ | hk <;> simp [Builtin.append_, run_underlying ht, run_underlying hk, sizeOf, typeInfo, hi, hs.len, hroom, hs.cells, Addr.add_lit, hst]
theorem run_append_none_vm {t tx ty e : TypeId} {i : TypeInfo} (ht : P.underlying t = some (.slice e)) (hi : P.info? e = some i) {base : Option Addr} {sLen sCap : Nat} {u : Value} {news : List Value} (hs : Src P i.size tx u 0 news w) (hroom : sLen ≤ sCap) :
    (Builtin.append_ #[t, tx] ty #[.slice base sLen sCap, u]).run P w = .ok (.slice base sLen sCap) w := by
  have hn : news = [] := List.eq_nil_of_length_eq_zero (by simpa using hs.newsLen)
  subst hn
  cases base with
  | none => rcases hs.kind with ⟨e', hk⟩ | hk <;> simp [Builtin.append_, run_underlying ht, run_underlying hk, sizeOf, typeInfo, hi, hs.len, hroom, hs.cells]
  | some ad => rcases hs.kind with ⟨e', hk⟩ | hk <;> simp [Builtin.append_, run_underlying ht, run_underlying hk, sizeOf, typeInfo, hi, hs.len, hroom, hs.cells, storeCells]
theorem app_slack {b : Id} {cs l : List AV} {vs : List Value} {off k : Nat} {cells : Array Value} {te : TypeId} {us : List Value} (H : Holds E w b cs cells te us) (rh : RelH s.obj E w) (hb : s.obj b = .cells cs) (hf : ¬ E.D s.n)
    (hs' : ∀ c, s'.obj c = if c = s.n then .cells ((cs.drop off).take k ++ l) else if c = b then .dead else s.obj c) (hl : RL E w l vs) (h1 : ∀ c ∈ l, c.one = true) (hk : off + k ≤ cs.length) (hfit : (E.φ b).off + off + k + vs.length ≤ cells.size) :
    ∃ E' w', (storeCells ⟨(E.φ b).block, (E.φ b).off + off + k, none⟩ vs).run P w = .ok () w' ∧ Le E w E' w' ∧ RelH s'.obj E' w' ∧ ExtH s.n.val (s.n.val + 1) s.obj E w s'.obj E' w' ∧ E'.D s.n ∧ E'.φ s.n = ⟨(E.φ b).block, (E.φ b).off + off, none⟩ ∧ ∃ c', w'.heap[(E.φ b).block]? = some (.cells c' te (0, 0)) ∧ c'.size = cells.size := by
  have hne : s.obj b ≠ .dead := by rw [hb]; intro h; cases h
  have hbn : b ≠ s.n := fun h => hf (by rw [← h]; exact rh.old b hne)
  have hlen := H.row.len
  have hst := run_storeCells_at P (E.φ b).block ((E.φ b).off + off + k) te vs 0 cells w H.heap (by omega) (ones_of hl h1)
  simp only [Nat.add_zero] at hst
  generalize hc' : (cells.toList.take ((E.φ b).off + off + k) ++ vs ++ cells.toList.drop ((E.φ b).off + off + k + vs.length)).toArray = c' at hst
  have hcs : c' = (splice ((E.φ b).off + off + k) vs cells.toList).toArray := by rw [← hc', splice_eq _ _ _ (by have := Array.length_toList (xs := cells); omega)]
  have hcz : c'.size = cells.size := by rw [hcs]; simp [splice_length]
  let E' : Env := ⟨fun c => if c = s.n then ⟨(E.φ b).block, (E.φ b).off + off, none⟩ else E.φ c, E.I, fun c => E.D c ∨ c = s.n⟩
  have hφ : ∀ c, E.D c → E'.φ c = E.φ c := fun c hc => if_neg (fun h' : c = s.n => hf (by rw [← h']; exact hc))
  have hφn : E'.φ s.n = ⟨(E.φ b).block, (E.φ b).off + off, none⟩ := if_pos rfl
  have hle : Le E w E' (w.setRow (E.φ b).block c') := ⟨fun _ h => .inl h, hφ, fun _ h => h, fun k hk => setRow_other w _ k c' (fun he => rh.apart b hne (by rw [← he]; exact hk)), fun k c0 e0 fr0 hk => by
    by_cases hkb : k = (E.φ b).block
    · subst hkb
      rw [H.heap] at hk
      cases hk
      exact ⟨c', _, setRow_heap w _ _ c' _ _ H.heap, hcz⟩
    · exact ⟨c0, fr0, by rw [setRow_other w _ k c' hkb]; exact hk, rfl⟩⟩
  refine ⟨E', w.setRow (E.φ b).block c', hst, hle, rel_step rh hle s.n (.inr rfl) (fun ds hds => ?_) (fun es hes => ?_) (fun d hd hdd => ?_) ?_ (fun _ h => h) (by simp), ?_, .inr rfl, hφn, c', setRow_heap w _ _ c' _ _ H.heap, hcz⟩
  · rw [hs', if_pos rfl] at hds
    cases hds
    have hrow : RL E w ((cs.drop off).take k ++ l) ((us.drop off).take k ++ vs) := ((H.row.drop off).take k).append hl
    have hkl : ((us.drop off).take k).length = k := by rw [List.length_take, List.length_drop]; omega
    refine ⟨c', te, (us.drop off).take k ++ vs, by rw [hφn]; exact setRow_heap w _ _ c' _ _ H.heap, hrow.mono hle, fun j u hu => ?_, fun d hd => (List.mem_append.mp hd).elim (fun h => H.one d (List.mem_of_mem_drop (List.mem_of_mem_take h))) (h1 d)⟩
    rw [hφn]
    dsimp only
    rw [hcs, List.getElem?_toArray, splice_get]
    have hjl : j < k + vs.length := by
      have := (List.getElem?_eq_some_iff.mp hu).1
      rw [List.length_append, hkl] at this; exact this
    rw [if_pos (by have := Array.length_toList (xs := cells); omega)]
    by_cases hj : j < k
    · rw [List.getElem?_append_left (by rw [hkl]; exact hj), List.getElem?_take, if_pos hj, List.getElem?_drop] at hu
      rw [if_neg (by omega), Array.getElem?_toList, Nat.add_assoc]; exact H.at_ _ u hu
    · rw [List.getElem?_append_right (by rw [hkl]; omega), hkl] at hu
      rw [if_pos (by omega), ← hu]; congr 1; omega
  · rw [hs', if_pos rfl] at hes; cases hes
  · rw [hs', if_neg hd] at hdd
    by_cases hdb : d = b
    · rw [if_pos hdb] at hdd; exact absurd rfl hdd
    · rw [if_neg hdb] at hdd
      refine ⟨by rw [hs', if_neg hd, if_neg hdb], setRow_other w _ _ c' (fun he => rh.inj d b hdd hne hdb he), ?_⟩
      rw [hφn]
      exact fun he => rh.inj b d hne hdd (fun h => hdb h.symm) he
  · rw [hφn]; exact rh.apart b hne
  · refine ⟨fun _ h => .inl h, hφ, ?_, fun _ h => h, fun _ h => .inl h, rfl, rfl, rfl, by simp, fun q hq hqb => setRow_other w _ q c' (fun he => hqb b hne he.symm), hle.shape, fun d hd => ?_⟩
    · rintro c (hc | rfl)
      · exact .inl hc
      · exact .inr ⟨Nat.le_refl _, Nat.lt_succ_self _⟩
    · by_cases hdn : d = s.n
      · rw [hdn, hφn]; exact .inl ⟨b, hne, rfl⟩
      · rw [hs', if_neg hdn] at hd
        by_cases hdb : d = b
        · rw [if_pos hdb] at hd; exact absurd rfl hd
        · rw [if_neg hdb] at hd
          rw [hφ d (rh.old d hd)]; exact .inl ⟨d, hd, rfl⟩
end
end Go.Vm
namespace Go.Vm
set_option linter.unusedVariables false
variable {P : Program}
section
variable {E : Env} {w : World} {nt : Nat} {f : Fr AV} {a : Act} {s s' : St} {r : AV} {call : CallT} {n n' : Nat} {o : Oper} {x y z : Operand} {cx cy cz : CO}
theorem run_app {t tx : TypeId} {cl : Call} (ho : o.op = .call cl) (hb : cl.callee = .builtin .append) (ha : cl.args.toList = [x, y]) (hat : cl.argTypes.toList = [t, tx]) {v : Value} {w' : World}
    (h : (Builtin.append_ #[t, tx] o.type #[a.eval x, a.eval y]).run P w = .ok v w') : (execOp a.eval o).run P w = .ok (.value v) w' := by
  simp [execOp, ho, resolve, hb, arr2 ha, arr2 hat, invoke, builtin, h]
theorem s_app {t tx e : TypeId} {i : TypeInfo} {l : List AV} {cl : Call} (ht : P.underlying t = some (.slice e)) (hi : P.info? e = some i) (hz : zeroAt P e = some l) (hk : (∃ e', P.underlying tx = some (.slice e')) ∨ P.underlying tx = some .string)
    (ho : o.op = .call cl) (hb : cl.callee = .builtin .append) (ha : cl.args.toList = [x, y]) (hat : cl.argTypes.toList = [t, tx]) (hx : cod x = some cx) (hy : cod y = some cy) (rf : RF E w nt f a) (rh : RelH s.obj E w) (hf : ¬ E.D s.n)
    (h : opApp i.size i.bytes cx cy call f s = .ok r s') : s.n.val ≤ s'.n.val ∧ Out P (execOp a.eval o) s.n.val s'.n.val s.obj E w r s'.obj := by
  obtain ⟨i', zv, hi', hzv, hpos, hll, hrow⟩ := zeroAt_ok hz
  rw [hi] at hi'; cases hi'
  have hzs : zv.cells.size = i.size := by rw [← hll, ← (hrow E w).1.len, Array.length_toList]
  have h1 := cod_rv hx rf
  have h2 := cod_rv hy rf
  obtain ⟨m, new, news, hsrc, hnew, hnew1, hnl, hh⟩ := srcOf_ok hk rh h2 h
  have hnsl := hsrc.newsLen
  rcases onSl_ok hh with ⟨hv, hh1⟩ | ⟨b, off, len, cap, ex, hv, hh1⟩ | ⟨cs, len, cap, ex, hv, hh1⟩ | ⟨hh1, _⟩
  · rw [hv] at h1
    generalize hu : a.eval x = u at h1
    cases h1
    cases hm : Nat.beq m 0 with
    | true =>
      rw [hm] at hh1
      obtain ⟨rfl, rfl⟩ := ok_inj hh1
      have hm0 := Nat.eq_of_beq_eq_true hm
      subst hm0
      exact ⟨Nat.le_refl _, .same (run_app ho hb ha hat (by rw [hu]; exact run_append_none_vm ht hi hsrc (Nat.le_refl _))) rh .nils⟩
    | false =>
      rw [hm] at hh1
      have hm0 : m ≠ 0 := fun h0 => by subst h0; cases hm
      have hg := app_grow (P := P) (w := w) (E := E) (ty := o.type) (sLen := 0) (sCap := 0) (base := none) (old := []) (olds := []) (md := execOp a.eval o) ht hi hzv hpos hzs hsrc hnew hnew1 (RL.nil _ _) (fun c hc => by cases hc) (by simp) (run_firstCells_none w.drew i.size 0 0 0) (by omega) rh hf
        (show grown s i.size i.bytes (0 + m) ([] ++ new) = .ok r s' by rw [Nat.zero_add]; exact hh1) (fun v w' hr => run_app ho hb ha hat (by rw [hu]; exact hr))
      exact ⟨by rw [hg.1]; omega, by rw [hg.1]; exact hg.2⟩
  · rw [hv] at h1
    obtain ⟨cs, hcs, hh2⟩ := onCells_ok hh1
    obtain ⟨hle, hh3⟩ := br_ok hh2
    have hle' : off + cap * i.size ≤ cs.length := by have := Nat.le_of_ble_eq_true hle; rwa [ln_eq] at this
    obtain ⟨c, te, us, H⟩ := rh.cells b cs hcs
    have hlen := H.row.len
    generalize hu : a.eval x = u at h1
    cases h1 with | sl _ _ _ _ cap' _ hD hlc hc hxx hss =>
    have hmul : len * i.size ≤ cap * i.size := Nat.mul_le_mul_right _ hlc
    have hcell : ∀ (j : Nat) (q : Value), ((us.drop off).take (len * i.size))[j]? = some q → w.cell? ((⟨(E.φ b).block, (E.φ b).off + off, none⟩ : Addr).add j) = some q := fun j q hj => by
      rw [addr_add]
      rw [List.getElem?_take] at hj
      split at hj
      · rw [List.getElem?_drop] at hj; rw [Nat.add_assoc]; exact holds_cell H _ q hj
      · cases hj
    have hol : ((us.drop off).take (len * i.size)).length = len * i.size := by rw [List.length_take, List.length_drop]; omega
    have hold : RL E w ((cs.drop off).take (len * i.size)) ((us.drop off).take (len * i.size)) := (H.row.drop off).take _
    have hold1 : ∀ c ∈ (cs.drop off).take (len * i.size), c.one = true := fun c hc => H.one c (List.mem_of_mem_drop (List.mem_of_mem_take hc))
    have hfirst : (Builtin.firstCells i.size len (.slice (some ⟨(E.φ b).block, (E.φ b).off + off, none⟩) len cap')).run P w.drew = .ok ((us.drop off).take (len * i.size)).toArray w.drew :=
      run_firstCells_some w.drew i.size len _ len cap' _ hol (by simpa using hcell)
    cases hroom : Nat.ble (Nat.add len m) cap with
    | true =>
      rw [hroom] at hh3
      obtain ⟨rfl, rfl⟩ := ok_inj hh3
      have hroom' : len + m ≤ cap := Nat.le_of_ble_eq_true hroom
      have hmul2 : len * i.size + m * i.size ≤ cap * i.size := by rw [← Nat.add_mul]; exact Nat.mul_le_mul_right _ hroom'
      obtain ⟨w', k1, k2, k3, k4⟩ := write_row (P := P) (s' := s.put b (.cells (splice (off + len * i.size) new cs))) s.n.val s.n.val rh hcs (fun c => St.obj_put s b c _) hnew hnew1 (by omega)
      rw [← Nat.add_assoc] at k1
      refine ⟨by simp, E, w', _, .inl (run_app ho hb ha hat (by rw [hu]; exact run_append_room_vm ht hi hsrc (by omega) k1)), k3, ?_, by simpa using k4⟩
      refine .sl b off (len + m) cap cap' ex hD hroom' hc hxx (fun hne => ?_)
      obtain ⟨c0, e0, fr0, g1, g2⟩ := hss hne
      obtain ⟨c1, fr1, g3, g4⟩ := k2.shape _ c0 e0 fr0 g1
      exact ⟨c1, e0, fr1, g3, by rw [g4]; exact g2⟩
    | false =>
      rw [hroom] at hh3
      have hnr : cap < len + m := by
        apply Decidable.byContradiction
        intro hn
        have : Nat.ble (Nat.add len m) cap = true := Nat.ble_eq_true_of_le (show len + m ≤ cap by omega)
        rw [this] at hroom; cases hroom
      cases hx0 : Nat.beq ex 0 with
      | true =>
        rw [hx0, br_false, br_true] at hh3
        have hcc := hxx (Nat.eq_of_beq_eq_true hx0)
        rw [apd_eq, tk_eq, dr_eq] at hh3
        have hg := app_grow (P := P) (w := w) (E := E) (ty := o.type) (md := execOp a.eval o) ht hi hzv hpos hzs hsrc hnew hnew1 hold hold1 hol hfirst (by omega) rh hf hh3 (fun v w' hr => run_app ho hb ha hat (by rw [hu]; exact hr))
        exact ⟨by rw [hg.1]; omega, by rw [hg.1]; exact hg.2⟩
      | false =>
        rw [hx0, br_false, br_false] at hh3
        obtain ⟨hxs, hh4⟩ := br_ok hh3
        have hxs' : ex = i.size := Nat.eq_of_beq_eq_true hxs
        rw [apd_eq, tk_eq, dr_eq] at hh4
        have hkill : ∀ c, (s.put b .dead).obj c = if c = b then .dead else s.obj c := fun c => St.obj_put s b c _
        by_cases hin : len + m ≤ cap'
        · obtain ⟨g1, g2, g3, g4, rfl⟩ := grown_ok hh4
          obtain ⟨c0, e0, fr0, q1, q2⟩ := hss (by omega)
          rw [H.heap] at q1
          cases q1
          rw [hxs'] at q2
          have hmul2 : len * i.size + m * i.size ≤ cap' * i.size := by rw [← Nat.add_mul]; exact Nat.mul_le_mul_right _ hin
          have g4' : ∀ d, s'.obj d = if d = s.n then .cells ((cs.drop off).take (len * i.size) ++ new) else if d = b then .dead else s.obj d := fun d => by rw [g4 d, St.n_put, hkill]; rfl
          obtain ⟨E', w', k1, k2, k3, k4, k5, k6, c', k7, k8⟩ := app_slack (P := P) H rh hcs hf g4' hnew hnew1 (by omega) (by omega)
          rw [St.n_put] at g3
          refine ⟨by omega, E', w', _, .inl (run_app ho hb ha hat (by rw [hu]; exact run_append_room_vm ht hi hsrc hin k1)), k3, ?_, by rw [g3]; exact k4⟩
          rw [St.n_put]
          have := RV.sl (E := E') (w := w') s.n 0 (len + m) (len + m) cap' i.size k5 (Nat.le_refl _) hin (fun h0 => by omega)
          rw [k6] at this
          refine this (fun _ => ⟨c', te, (0, 0), k7, ?_⟩)
          rw [k8]; simp only [Nat.add_zero]; exact q2
        · have rh2 : RelH (s.put b .dead).obj E w := rh.kill (fun c => by rw [hkill]; by_cases hcb : c = b <;> simp [hcb])
          have hg := app_grow (P := P) (w := w) (E := E) (ty := o.type) (md := execOp a.eval o) ht hi hzv hpos hzs hsrc hnew hnew1 hold hold1 hol hfirst (by omega) rh2 (by rw [St.n_put]; exact hf) hh4 (fun v w' hr => run_app ho hb ha hat (by rw [hu]; exact hr))
          rw [St.n_put] at hg
          exact ⟨by rw [hg.1]; omega, by rw [hg.1]; exact hg.2.kill (fun c hc => by rw [hkill] at hc; by_cases hcb : c = b <;> simp_all)⟩
  · rw [hv] at h1
    cases hm : Nat.beq m 0 with
    | true =>
      rw [hm] at hh1
      obtain ⟨rfl, rfl⟩ := ok_inj hh1
      have hm0 := Nat.eq_of_beq_eq_true hm
      subst hm0
      rw [hv]
      generalize hu : a.eval x = u at h1
      cases h1 with | ts _ _ _ cap' _ g off us hI hl hc hr ho1 hlen hcap hxx hsp =>
      exact ⟨Nat.le_refl _, .same (run_app ho hb ha hat (by rw [hu]; exact run_append_none_vm ht hi hsrc hlen)) rh (.ts cs len cap cap' ex g off us hI hl hc hr ho1 hlen hcap hxx hsp)⟩
    | false =>
      rw [hm, br_false] at hh1
      obtain ⟨hex, hh2⟩ := br_ok hh1
      obtain ⟨hgr, hh3⟩ := br_ok hh2
      obtain ⟨hln, hh4⟩ := br_ok hh3
      generalize hu : a.eval x = u at h1
      cases h1 with | ts _ _ _ cap' _ g off us hI hl hc hr ho1 hlen hcap hxx hsp =>
      rename_i sp
      have hln' : cs.length = len * i.size := by have := Nat.eq_of_beq_eq_true hln; rwa [ln_eq] at this
      have hcc := hxx hex
      have hgr' : cap < len + m := Nat.le_of_ble_eq_true hgr
      rw [apd_eq] at hh4
      have hol : us.length = len * i.size := by rw [hl, hln']
      have hfirst : (Builtin.firstCells i.size len (.slice (some ⟨g, off, sp⟩) len cap')).run P w.drew = .ok us.toArray w.drew :=
        run_firstCells_some w.drew i.size len _ len cap' _ hol (fun j q hj => by
          rcases hsp with rfl | ⟨_, _, rfl⟩
          · rw [addr_add]; simpa using hc j q hj
          · have : us = [] := List.eq_nil_of_length_eq_zero hl
            subst this; simp at hj)
      have hg := app_grow (P := P) (w := w) (E := E) (ty := o.type) (md := execOp a.eval o) ht hi hzv hpos hzs hsrc hnew hnew1 ⟨hl, hr⟩ ho1 hol hfirst (by omega) rh hf hh4 (fun v w' hr => run_app ho hb ha hat (by rw [hu]; exact hr))
      exact ⟨by rw [hg.1]; omega, by rw [hg.1]; exact hg.2⟩
  · exact R.noConfusion hh1
end
end Go.Vm
