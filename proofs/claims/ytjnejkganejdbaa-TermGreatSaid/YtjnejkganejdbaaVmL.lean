/- The abstract machine is sound: blocks that are made, blocks that are written, in general. No condition. -/
import Derived.Test.YtjnejkganejdbaaVmK
import Derived.Laws.CopyRow
import Derived.Deep.AppendSrc
namespace Go.Vm
set_option linter.unusedVariables false
variable {P : Program}

/-! ### Steps of the state -/
theorem rel_step {o o' : Id → AO} {E E' : Env} {w w' : World} (h : RelH o E w) (hle : Le E w E' w') (b0 : Id) (hD : E'.D b0)
    (hcell : ∀ cs, o' b0 = .cells cs → ∃ c e us, Holds E' w' b0 cs c e us) (hmap : ∀ es, o' b0 = .map es → ∃ ms cl, Maps E' w' b0 es ms cl)
    (hoth : ∀ b, b ≠ b0 → o' b ≠ .dead → o' b = o b ∧ w'.heap[(E.φ b).block]? = w.heap[(E.φ b).block]? ∧ (E'.φ b0).block ≠ (E.φ b).block)
    (hap : ¬ E'.I (E'.φ b0).block) (hI : ∀ k, E'.I k → E.I k) (hsz : w.heap.size ≤ w'.heap.size) : RelH o' E' w' where
  cells b cs hb := by
    by_cases hbb : b = b0
    · subst hbb; exact hcell cs hb
    · obtain ⟨h1, h2, _⟩ := hoth b hbb (by rw [hb]; intro h; cases h)
      rw [h1] at hb
      obtain ⟨c, e, us, H⟩ := h.cells b cs hb
      have hφ := hle.φ b (h.old b (by rw [hb]; intro h; cases h))
      exact ⟨c, e, us, by rw [hφ, h2]; exact H.heap, H.row.mono hle, fun j u hu => by rw [hφ]; exact H.at_ j u hu, H.one⟩
  map b es hb := by
    by_cases hbb : b = b0
    · subst hbb; exact hmap es hb
    · obtain ⟨h1, h2, _⟩ := hoth b hbb (by rw [hb]; intro h; cases h)
      rw [h1] at hb
      obtain ⟨ms, cl, H⟩ := h.map b es hb
      have hφ := hle.φ b (h.old b (by rw [hb]; intro h; cases h))
      exact ⟨ms, cl, by rw [hφ, h2]; exact H.heap, H.keys.mono hle, H.vals.mono hle, H.born⟩
  old b hb := by
    by_cases hbb : b = b0
    · subst hbb; exact hD
    · obtain ⟨h1, _, _⟩ := hoth b hbb hb
      exact hle.D b (h.old b (by rw [← h1]; exact hb))
  inj b c hb hc hbc := by
    by_cases hbb : b = b0
    · subst hbb
      obtain ⟨h1, _, h3⟩ := hoth c (fun e => hbc e.symm) hc
      rw [hle.φ c (h.old c (by rw [← h1]; exact hc))]; exact h3
    · obtain ⟨h1, _, h3⟩ := hoth b hbb hb
      rw [hle.φ b (h.old b (by rw [← h1]; exact hb))]
      by_cases hcc : c = b0
      · subst hcc; exact fun e => h3 e.symm
      · obtain ⟨k1, _, _⟩ := hoth c hcc hc
        rw [hle.φ c (h.old c (by rw [← k1]; exact hc))]
        exact h.inj b c (by rw [← h1]; exact hb) (by rw [← k1]; exact hc) hbc
  apart b hb := by
    by_cases hbb : b = b0
    · subst hbb; exact hap
    · obtain ⟨h1, _, _⟩ := hoth b hbb hb
      rw [hle.φ b (h.old b (by rw [← h1]; exact hb))]
      exact fun hi => h.apart b (by rw [← h1]; exact hb) (hI _ hi)
  seen k hk := Nat.lt_of_lt_of_le (h.seen k (hI k hk)) hsz
theorem RelH.block_lt {o : Id → AO} {E : Env} {w : World} (h : RelH o E w) {b : Id} (hb : o b ≠ .dead) : (E.φ b).block < w.heap.size := by
  cases ho : o b with
  | dead => exact absurd ho hb
  | cells cs => obtain ⟨c, e, us, H⟩ := h.cells b cs ho; exact (Array.getElem?_eq_some_iff.mp H.heap).1
  | map es => obtain ⟨ms, cl, H⟩ := h.map b es ho; exact (Array.getElem?_eq_some_iff.mp H.heap).1
/-- Nothing of the state's is touched; more may lie there that nobody writes. -/
theorem rel_keep {o : Id → AO} {E E' : Env} {w w' : World} (h : RelH o E w) (hle : Le E w E' w') (hold : ∀ k, k < w.heap.size → w'.heap[k]? = w.heap[k]?) (hsz : w.heap.size ≤ w'.heap.size)
    (hI : ∀ k, E'.I k → E.I k ∨ (w.heap.size ≤ k ∧ k < w'.heap.size)) : RelH o E' w' where
  cells b cs hb := by
    have hne : o b ≠ .dead := by rw [hb]; intro h; cases h
    obtain ⟨c, e, us, H⟩ := h.cells b cs hb
    have hφ := hle.φ b (h.old b hne)
    exact ⟨c, e, us, by rw [hφ, hold _ (h.block_lt hne)]; exact H.heap, H.row.mono hle, fun j u hu => by rw [hφ]; exact H.at_ j u hu, H.one⟩
  map b es hb := by
    have hne : o b ≠ .dead := by rw [hb]; intro h; cases h
    obtain ⟨ms, cl, H⟩ := h.map b es hb
    have hφ := hle.φ b (h.old b hne)
    exact ⟨ms, cl, by rw [hφ, hold _ (h.block_lt hne)]; exact H.heap, H.keys.mono hle, H.vals.mono hle, H.born⟩
  old b hb := hle.D b (h.old b hb)
  inj b c hb hc hbc := by rw [hle.φ b (h.old b hb), hle.φ c (h.old c hc)]; exact h.inj b c hb hc hbc
  apart b hb := by
    rw [hle.φ b (h.old b hb)]
    intro hi
    rcases hI _ hi with h1 | h1
    · exact h.apart b hb h1
    · have := h.block_lt hb; omega
  seen k hk := by
    rcases hI _ hk with h1 | h1
    · exact Nat.lt_of_lt_of_le (h.seen k h1) hsz
    · exact h1.2
theorem RelH.kill {o o' : Id → AO} {E : Env} {w : World} (h : RelH o E w) (ho : ∀ b, o' b = .dead ∨ o' b = o b) : RelH o' E w := by
  have key : ∀ b, o' b ≠ .dead → o' b = o b := fun b hb => (ho b).resolve_left hb
  exact ⟨fun b cs hb => h.cells b cs (by rw [← key b (by rw [hb]; intro h; cases h)]; exact hb), fun b es hb => h.map b es (by rw [← key b (by rw [hb]; intro h; cases h)]; exact hb),
    fun b hb => h.old b (by rw [← key b hb]; exact hb), fun b c hb hc => h.inj b c (by rw [← key b hb]; exact hb) (by rw [← key c hc]; exact hc), fun b hb => h.apart b (by rw [← key b hb]; exact hb), h.seen⟩
theorem ExtH.weaken {n n' : Nat} {o o1 o' : Id → AO} {E E' : Env} {w w' : World} (h : ExtH n n' o1 E w o' E' w') (ho : ∀ b, o1 b ≠ .dead → o b ≠ .dead) : ExtH n n' o E w o' E' w' :=
  { h with
    seen := fun k hk => (h.seen k hk).imp id (Or.imp id fun ⟨b, hb, e⟩ => ⟨b, ho b hb, e⟩)
    keep := fun k hk hb => h.keep k hk (fun b hb1 => hb b (ho b hb1))
    new := fun b hb => (h.new b hb).imp (fun ⟨c, hc, e⟩ => ⟨c, ho c hc, e⟩) id }
theorem Out.kill {m : Sem Next} {n n' : Nat} {o o1 o' : Id → AO} {E : Env} {w : World} {r : AV} (h : Out P m n n' o1 E w r o') (ho : ∀ b, o1 b ≠ .dead → o b ≠ .dead) : Out P m n n' o E w r o' := by
  obtain ⟨E', w', v, h1, h2, h3, h4⟩ := h
  exact ⟨E', w', v, h1, h2, h3, h4.weaken ho⟩
/-- A block is made. -/
theorem Out.make {m : Sem Next} {s s' : St} {E : Env} {w w' : World} {r : AV} {v : Value} {ao : AO} {ob : Obj}
    (h : m.run P w = .ok (.value v) w') (hr : RelH s.obj E w) (hf : ¬ E.D s.n) (hs' : ∀ c, s'.obj c = if c = s.n then ao else s.obj c)
    (hheap : w'.heap = w.heap.push ob) (hos : w'.os = w.os) (htape : w'.tape = w.tape) (hout : w'.output = w.output)
    (hao : ∀ E', Le E w E' w' → E'.φ s.n = ⟨w.heap.size, 0, none⟩ → (∀ cs, ao = .cells cs → ∃ c e us, Holds E' w' s.n cs c e us) ∧ (∀ es, ao = .map es → ∃ ms cl, Maps E' w' s.n es ms cl))
    (hv : ∀ E', Le E w E' w' → E'.D s.n → E'.φ s.n = ⟨w.heap.size, 0, none⟩ → RV E' w' r v) : Out P m s.n.val (s.n.val + 1) s.obj E w r s'.obj := by
  let E' : Env := ⟨fun b => if b = s.n then ⟨w.heap.size, 0, none⟩ else E.φ b, E.I, fun b => E.D b ∨ b = s.n⟩
  have hφ : ∀ b, E.D b → E'.φ b = E.φ b := fun b hb => if_neg (fun h' : b = s.n => hf (by rw [← h']; exact hb))
  have hφn : E'.φ s.n = ⟨w.heap.size, 0, none⟩ := if_pos rfl
  have hold : ∀ k, k < w.heap.size → w'.heap[k]? = w.heap[k]? := fun k hk => by rw [hheap, Array.getElem?_push, if_neg (by omega)]
  have hsz : w.heap.size ≤ w'.heap.size := by rw [hheap, Array.size_push]; omega
  have hlive : ∀ b, b ≠ s.n → s'.obj b = s.obj b := fun b hb => by rw [hs', if_neg hb]
  have hle : Le E w E' w' := ⟨fun b hb => .inl hb, hφ, fun _ hk => hk, fun k hk => hold k (hr.seen k hk), .of_old hold⟩
  have hao' := hao E' hle hφn
  have hn : s'.obj s.n = ao := by rw [hs', if_pos rfl]
  refine ⟨E', w', v, .inl h, rel_step hr hle s.n (.inr rfl) (fun cs hc => hao'.1 cs (by rw [← hn]; exact hc)) (fun es hc => hao'.2 es (by rw [← hn]; exact hc)) (fun b hb hd => ?_) ?_ (fun _ hk => hk) hsz, hv E' hle (.inr rfl) hφn,
    ⟨fun b hb => .inl hb, hφ, ?_, fun _ hk => hk, fun _ hk => .inl hk, hos, htape, hout, hsz, fun k hk _ => hold k hk, .of_old hold, ?_⟩⟩
  · have e := hlive b hb
    rw [e] at hd
    have := hr.block_lt hd
    exact ⟨e, hold _ this, by rw [hφn]; show w.heap.size ≠ _; omega⟩
  · rw [hφn]; intro hI; have := hr.seen _ hI; simp at this
  · rintro b (hb | rfl)
    · exact .inl hb
    · exact .inr ⟨Nat.le_refl _, Nat.lt_succ_self _⟩
  · intro b hb
    by_cases hbn : b = s.n
    · rw [hbn, hφn]; exact .inr (Nat.le_refl _)
    · rw [hlive b hbn] at hb
      rw [hφ b (hr.old b hb)]; exact .inl ⟨b, hb, rfl⟩
/-- A row is made. -/
theorem Out.row {m : Sem Next} {s s' : St} {E : Env} {w w' : World} {r : AV} {v : Value} {cs : List AV} {us more : List Value} {e : TypeId}
    (h : m.run P w = .ok (.value v) w') (hr : RelH s.obj E w) (hf : ¬ E.D s.n) (hs' : ∀ c, s'.obj c = if c = s.n then .cells cs else s.obj c)
    (hheap : w'.heap = w.heap.push (.cells (us ++ more).toArray e (0, 0))) (hos : w'.os = w.os) (htape : w'.tape = w.tape) (hout : w'.output = w.output)
    (hrow : RL E w cs us) (h1 : ∀ c ∈ cs, c.one = true)
    (hv : ∀ E', Le E w E' w' → E'.D s.n → E'.φ s.n = ⟨w.heap.size, 0, none⟩ → RV E' w' r v) : Out P m s.n.val (s.n.val + 1) s.obj E w r s'.obj := by
  refine Out.make h hr hf hs' hheap hos htape hout (fun E' hle hφ => ⟨fun cs' hcs => ?_, fun es hes => by cases hes⟩) hv
  cases hcs
  refine ⟨(us ++ more).toArray, e, us, ?_, hrow.mono hle, fun j u hu => ?_, h1⟩
  · rw [hφ, hheap]; simp
  · rw [hφ]
    simp only [Nat.zero_add, List.getElem?_toArray]
    rw [List.getElem?_append_left (List.getElem?_eq_some_iff.mp hu).1]; exact hu

/-! ### Writing -/
theorem splice_eq {α : Type} (o : Nat) (xs l : List α) (h : o + xs.length ≤ l.length) : splice o xs l = l.take o ++ xs ++ l.drop (o + xs.length) := by
  apply List.ext_getElem?
  intro j
  rw [splice_get]
  have hmin : min o l.length = o := by omega
  by_cases h1 : j < o
  · rw [List.append_assoc, List.getElem?_append_left (by rw [List.length_take]; omega), List.getElem?_take, if_pos h1, if_pos (by omega), if_neg (by omega)]
  · rw [List.append_assoc, List.getElem?_append_right (by rw [List.length_take]; omega), List.length_take, hmin]
    by_cases h2 : j < o + xs.length
    · rw [List.getElem?_append_left (by omega), if_pos (by omega), if_pos (by omega)]
    · rw [List.getElem?_append_right (by omega), List.getElem?_drop]
      by_cases h3 : j < l.length
      · rw [if_pos h3, if_neg (by omega)]; congr 1; omega
      · rw [if_neg h3, List.getElem?_eq_none (by omega)]
theorem RL.splice {E : Env} {w : World} {cs ds : List AV} {us vs : List Value} (h : RL E w cs us) (k : RL E w ds vs) (o : Nat) : RL E w (splice o ds cs) (splice o vs us) := by
  refine ⟨by rw [splice_length, splice_length, h.len], fun j c u hc hu => ?_⟩
  rw [splice_get] at hc hu
  by_cases h1 : j < cs.length
  · rw [if_pos h1] at hc
    rw [if_pos (by rw [h.len]; exact h1)] at hu
    by_cases h2 : o ≤ j ∧ j < o + ds.length
    · rw [if_pos h2] at hc
      rw [if_pos (by rw [k.len]; exact h2)] at hu
      exact k.each _ c u hc hu
    · rw [if_neg h2] at hc
      rw [if_neg (by rw [k.len]; exact h2)] at hu
      exact h.each j c u hc hu
  · rw [if_neg h1] at hc; cases hc
theorem splice_mem {α : Type} {o : Nat} {xs l : List α} {c : α} (h : c ∈ splice o xs l) : c ∈ xs ∨ c ∈ l := by
  obtain ⟨j, hj⟩ := List.getElem?_of_mem h
  rw [splice_get] at hj
  split at hj
  · split at hj
    · exact .inl (List.mem_of_getElem? hj)
    · exact .inr (List.mem_of_getElem? hj)
  · cases hj
theorem ones_of {E : Env} {w : World} {cs : List AV} {us : List Value} (h : RL E w cs us) (h1 : ∀ c ∈ cs, c.one = true) : ∀ u ∈ us, u.oneCell' = true := fun u hu => by
  obtain ⟨j, hj⟩ := List.getElem?_of_mem hu
  have hlt : j < cs.length := by rw [← h.len]; exact (List.getElem?_eq_some_iff.mp hj).1
  exact (h.each j _ u (List.getElem?_eq_getElem hlt) hj).one (h1 _ (List.getElem_mem hlt))
/-- A block is written. -/
theorem write_row {s s' : St} {E : Env} {w : World} {b : Id} {cs l : List AV} {vs : List Value} {off : Nat} (n n' : Nat) (hr : RelH s.obj E w) (hb : s.obj b = .cells cs) (hs' : ∀ c, s'.obj c = if c = b then .cells (splice off l cs) else s.obj c)
    (hl : RL E w l vs) (h1 : ∀ c ∈ l, c.one = true) (hfit : off + l.length ≤ cs.length) :
    ∃ w', (storeCells ⟨(E.φ b).block, (E.φ b).off + off, none⟩ vs).run P w = .ok () w' ∧ Le E w E w' ∧ RelH s'.obj E w' ∧ ExtH n n' s.obj E w s'.obj E w' := by
  obtain ⟨c, e, us, H⟩ := hr.cells b cs hb
  have hne : s.obj b ≠ .dead := by rw [hb]; intro h; cases h
  have hsize : (E.φ b).off + us.length ≤ c.size ∨ us = [] := by
    by_cases h0 : us = []
    · exact .inr h0
    · refine .inl ?_
      have hpos : 0 < us.length := List.length_pos_iff.mpr h0
      have := H.at_ (us.length - 1) us[us.length - 1] (List.getElem?_eq_getElem (by omega))
      have := (Array.getElem?_eq_some_iff.mp this).1
      omega
  have hlen := H.row.len
  have hll := hl.len
  by_cases hv0 : vs = []
  · -- nothing is written
    subst hv0
    have hl0 : l = [] := List.eq_nil_of_length_eq_zero (by rw [← hll]; exact List.length_nil)
    subst hl0
    have hsame : ∀ c, s'.obj c = s.obj c := fun c => by
      rw [hs']
      by_cases hc : c = b
      · rw [if_pos hc, hc, hb]
        congr 1
        apply List.ext_getElem?
        intro j
        rw [splice_get]
        by_cases hj : j < cs.length
        · rw [if_pos hj, if_neg (by simp)]
        · rw [if_neg hj, List.getElem?_eq_none (by omega)]
      · rw [if_neg hc]
    have he : s'.obj = s.obj := funext hsame
    rw [he]
    exact ⟨w, by simp [storeCells], .refl E w, hr, .refl⟩
  · have hvpos : 0 < vs.length := List.length_pos_iff.mpr hv0
    have hsz : (E.φ b).off + us.length ≤ c.size := hsize.resolve_right (fun h0 => by rw [h0] at hlen; simp at hlen; omega)
    have hst := run_storeCells_at P (E.φ b).block ((E.φ b).off + off) e vs 0 c w H.heap (by omega) (ones_of hl h1)
    simp only [Nat.add_zero] at hst
    have hle : ∀ c' : Array Value, c'.size = c.size → Le E w E (w.setRow (E.φ b).block c') := fun c' hc' =>
      ⟨fun _ h => h, fun _ _ => rfl, fun _ h => h, fun k hk => setRow_other w _ k c' (fun he => hr.apart b hne (by rw [← he]; exact hk)), fun k c0 e0 fr0 hk => by
        by_cases hkb : k = (E.φ b).block
        · subst hkb
          rw [H.heap] at hk
          cases hk
          exact ⟨c', _, setRow_heap w _ _ c' _ _ H.heap, hc'⟩
        · exact ⟨c0, fr0, by rw [setRow_other w _ k c' hkb]; exact hk, rfl⟩⟩
    generalize hc' : (c.toList.take ((E.φ b).off + off) ++ vs ++ c.toList.drop ((E.φ b).off + off + vs.length)).toArray = c' at hst
    have hcs : c' = (splice ((E.φ b).off + off) vs c.toList).toArray := by rw [← hc', splice_eq _ _ _ (by have := Array.length_toList (xs := c); omega)]
    have hcz : c'.size = c.size := by rw [hcs]; simp [splice_length]
    have hle' := hle c' hcz
    refine ⟨w.setRow (E.φ b).block c', hst, hle', rel_step hr hle' b (hr.old b hne) (fun ds hds => ?_) (fun es hes => ?_) (fun d hd hdd => ?_) (hr.apart b hne) (fun _ h => h) (by simp), ?_⟩
    · rw [hs', if_pos rfl] at hds
      cases hds
      refine ⟨c', e, Vm.splice off vs us, setRow_heap w _ _ c' _ _ H.heap, (H.row.splice hl off).mono hle', fun j u hu => ?_, fun d hd => (splice_mem hd).elim (h1 d) (H.one d)⟩
      rw [hcs, List.getElem?_toArray, splice_get]
      rw [splice_get] at hu
      split at hu
      · rename_i hj
        rw [if_pos (by rw [Array.length_toList]; omega)]
        split at hu
        · rename_i h2
          rw [if_pos (by omega), ← hu]; congr 1; omega
        · rename_i h2
          rw [if_neg (by omega), Array.getElem?_toList]; exact H.at_ j u hu
      · cases hu
    · rw [hs', if_pos rfl] at hes; cases hes
    · rw [hs', if_neg hd] at hdd
      refine ⟨by rw [hs', if_neg hd], setRow_other w _ _ c' (fun he => hr.inj d b hdd hne hd he), fun he => hr.inj b d hne hdd (fun h => hd h.symm) he⟩
    · refine ⟨fun _ h => h, fun _ _ => rfl, fun _ h => .inl h, fun _ h => h, fun _ h => .inl h, rfl, rfl, rfl, by simp, fun k hk hkb => setRow_other w _ k c' (fun he => hkb b hne he.symm), hle'.shape, fun d hd => ?_⟩
      by_cases hdb : d = b
      · subst hdb; exact .inl ⟨d, hne, rfl⟩
      · rw [hs', if_neg hdb] at hd; exact .inl ⟨d, hd, rfl⟩
end Go.Vm
