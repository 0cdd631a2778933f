/- The abstract machine and the model's: what an abstract value, state, frame says of the model's. No condition. -/
import Derived.Test.YtjnejkganejdbaaVmD
import Derived.Laws.Sem
import Derived.Laws.World
namespace Go.Vm
set_option linter.unusedVariables false

/-- A value of one cell. -/
def AV.one : AV → Bool
  | .agg _ | .tup _ => false
  | _ => true
/-- Where blocks lie; which of the model's blocks nobody writes any more; which names are given. -/
structure Env where
  φ : Id → Addr
  I : Nat → Prop
  D : Id → Prop
inductive RV (E : Env) (w : World) : AV → Value → Prop where
  | bool (b : Bool) : RV E w (.bool b) (.bool b)
  | int (k : IntKind) (n : Int) : RV E w (.int k n) (.int k n)
  | str (s : List UInt8) (x : ByteArray) (h : x.data.toList = s) : RV E w (.str s) (.string x)
  | nilp : RV E w .nilp (.pointer none)
  | ptr (b : Id) (o : Nat) (h : E.D b) : RV E w (.ptr b o) (.pointer (some ⟨(E.φ b).block, (E.φ b).off + o, none⟩))
  | tp (cs : List AV) (g off : Nat) (us : List Value) (hI : cs ≠ [] → E.I g) (hl : us.length = cs.length) (hc : ∀ (j : Nat) (u : Value), us[j]? = some u → w.cell? ⟨g, off + j, none⟩ = some u)
      (hr : ∀ (j : Nat) (c : AV) (u : Value), cs[j]? = some c → us[j]? = some u → RV E w c u) (h1 : ∀ c ∈ cs, c.one = true) : RV E w (.tp cs) (.pointer (some ⟨g, off, none⟩))
  | nils : RV E w .nils (.slice none 0 0)
  | sl (b : Id) (o len cap cap' : Nat) (ex : Nat) (h : E.D b) (hl : len ≤ cap) (hc : cap ≤ cap') (hx : ex = 0 → cap' = cap)
      (hs : ex ≠ 0 → ∃ c e fr, w.heap[(E.φ b).block]? = some (.cells c e fr) ∧ (E.φ b).off + o + cap' * ex ≤ c.size) :
      RV E w (.sl b o len cap ex) (.slice (some ⟨(E.φ b).block, (E.φ b).off + o, none⟩) len cap')
  | ts (cs : List AV) (len cap cap' : Nat) (ex : Bool) (g off : Nat) (us : List Value) (hI : cs ≠ [] → E.I g) (hl : us.length = cs.length) (hc : ∀ (j : Nat) (u : Value), us[j]? = some u → w.cell? ⟨g, off + j, none⟩ = some u)
      (hr : ∀ (j : Nat) (c : AV) (u : Value), cs[j]? = some c → us[j]? = some u → RV E w c u) (h1 : ∀ c ∈ cs, c.one = true) (hlen : len ≤ cap') (hcap : cap ≤ cap') (hx : ex = true → cap' = cap) : RV E w (.ts cs len cap ex) (.slice (some ⟨g, off, none⟩) len cap')
  | nilm : RV E w .nilm (.map none)
  | map (b : Id) (h : E.D b) : RV E w (.map b) (.map (some (E.φ b).block))
  | nilf : RV E w .nilf .nilFunc
  | fn (f : Id) (as bs : List AV) (us vs : List Value) (hl : us.length = as.length) (hr : ∀ (j : Nat) (c : AV) (u : Value), as[j]? = some c → us[j]? = some u → RV E w c u)
      (hm : vs.length = bs.length) (hs : ∀ (j : Nat) (c : AV) (u : Value), bs[j]? = some c → vs[j]? = some u → RV E w c u) : RV E w (.fn f as bs) (.func (.func f.val) us.toArray vs.toArray)
  | nili : RV E w .nili .nilIface
  | ifc (t : TypeId) (v : AV) (u : Value) (h : RV E w v u) : RV E w (.ifc t v) (.iface t u)
  | agg (cs : List AV) (us : List Value) (hl : us.length = cs.length) (hr : ∀ (j : Nat) (c : AV) (u : Value), cs[j]? = some c → us[j]? = some u → RV E w c u) (h1 : ∀ c ∈ cs, c.one = true) : RV E w (.agg cs) (.agg us.toArray)
  | tup (cs : List AV) (us : List Value) (hl : us.length = cs.length) (hr : ∀ (j : Nat) (c : AV) (u : Value), cs[j]? = some c → us[j]? = some u → RV E w c u) : RV E w (.tup cs) (.tuple us.toArray)

/-- Rows of values. -/
structure RL (E : Env) (w : World) (cs : List AV) (us : List Value) : Prop where
  len : us.length = cs.length
  each : ∀ (j : Nat) (c : AV) (u : Value), cs[j]? = some c → us[j]? = some u → RV E w c u

theorem RL.nil (E : Env) (w : World) : RL E w [] [] := ⟨rfl, fun j c u h => by simp at h⟩
theorem RL.cons {E : Env} {w : World} {c : AV} {u : Value} {cs : List AV} {us : List Value} (h : RV E w c u) (hs : RL E w cs us) : RL E w (c :: cs) (u :: us) :=
  ⟨by simp [hs.len], fun j a v ha hv => by
    cases j with
    | zero => simp at ha hv; subst ha; subst hv; exact h
    | succ j => exact hs.each j a v (by simpa using ha) (by simpa using hv)⟩
theorem RL.cons_inv {E : Env} {w : World} {c : AV} {cs : List AV} {us : List Value} (h : RL E w (c :: cs) us) : ∃ u vs, us = u :: vs ∧ RV E w c u ∧ RL E w cs vs := by
  cases us with
  | nil => have := h.len; simp at this
  | cons u vs => exact ⟨u, vs, rfl, h.each 0 c u rfl rfl, by have := h.len; simpa using this, fun j a v ha hv => h.each (j + 1) a v (by simpa using ha) (by simpa using hv)⟩
theorem RL.append {E : Env} {w : World} {cs ds : List AV} {us vs : List Value} (h : RL E w cs us) (k : RL E w ds vs) : RL E w (cs ++ ds) (us ++ vs) := by
  refine ⟨by simp [h.len, k.len], fun j c u hc hu => ?_⟩
  by_cases hj : j < cs.length
  · rw [List.getElem?_append_left hj] at hc
    rw [List.getElem?_append_left (by rw [h.len]; exact hj)] at hu
    exact h.each j c u hc hu
  · rw [List.getElem?_append_right (by omega)] at hc
    rw [List.getElem?_append_right (by rw [h.len]; omega), h.len] at hu
    exact k.each _ c u hc hu
theorem RL.take {E : Env} {w : World} {cs : List AV} {us : List Value} (h : RL E w cs us) (n : Nat) : RL E w (cs.take n) (us.take n) :=
  ⟨by simp [h.len], fun j c u hc hu => by
    rw [List.getElem?_take] at hc hu
    split at hc
    · rename_i hj; rw [if_pos hj] at hu; exact h.each j c u hc hu
    · cases hc⟩
theorem RL.drop {E : Env} {w : World} {cs : List AV} {us : List Value} (h : RL E w cs us) (n : Nat) : RL E w (cs.drop n) (us.drop n) :=
  ⟨by simp [h.len], fun j c u hc hu => by rw [List.getElem?_drop] at hc hu; exact h.each _ c u hc hu⟩
theorem RL.get {E : Env} {w : World} {cs : List AV} {us : List Value} (h : RL E w cs us) {j : Nat} {c : AV} (hc : cs[j]? = some c) : ∃ u, us[j]? = some u ∧ RV E w c u := by
  have hj : j < us.length := by rw [h.len]; exact (List.getElem?_eq_some_iff.mp hc).1
  exact ⟨us[j], List.getElem?_eq_getElem hj, h.each j c _ hc (List.getElem?_eq_getElem hj)⟩

/-- Rows keep their types and their sizes. -/
def Shaped (w w' : World) : Prop := ∀ (k : Nat) (c : Array Value) (e : TypeId) (fr : Nat × Nat), w.heap[k]? = some (.cells c e fr) → ∃ c' fr', w'.heap[k]? = some (.cells c' e fr') ∧ c'.size = c.size
/-- The world has gone on: what values say stays. -/
structure Le (E : Env) (w : World) (E' : Env) (w' : World) : Prop where
  D : ∀ b, E.D b → E'.D b
  φ : ∀ b : Id, E.D b → E'.φ b = E.φ b
  I : ∀ k, E.I k → E'.I k
  keep : ∀ k, E.I k → w'.heap[k]? = w.heap[k]?
  shape : Shaped w w'
theorem Shaped.refl (w : World) : Shaped w w := fun k c e fr h => ⟨c, fr, h, rfl⟩
theorem Shaped.trans {w w1 w2 : World} (h : Shaped w w1) (k : Shaped w1 w2) : Shaped w w2 := fun i c e fr hi => by
  obtain ⟨c1, f1, h1, s1⟩ := h i c e fr hi
  obtain ⟨c2, f2, h2, s2⟩ := k i c1 e f1 h1
  exact ⟨c2, f2, h2, s2.trans s1⟩
theorem Shaped.of_old {w w' : World} (h : ∀ k, k < w.heap.size → w'.heap[k]? = w.heap[k]?) : Shaped w w' := fun k c e fr hk => ⟨c, fr, by rw [h k (Array.getElem?_eq_some_iff.mp hk).1]; exact hk, rfl⟩
theorem Le.refl (E : Env) (w : World) : Le E w E w := ⟨fun _ h => h, fun _ _ => rfl, fun _ h => h, fun _ _ => rfl, .refl w⟩
theorem Le.trans {E E1 E2 : Env} {w w1 w2 : World} (h : Le E w E1 w1) (k : Le E1 w1 E2 w2) : Le E w E2 w2 :=
  ⟨fun b hb => k.D b (h.D b hb), fun b hb => (k.φ b (h.D b hb)).trans (h.φ b hb), fun i hi => k.I i (h.I i hi), fun i hi => (k.keep i (h.I i hi)).trans (h.keep i hi), h.shape.trans k.shape⟩
theorem cell_of_heap {w w' : World} {a : Addr} (h : w'.heap[a.block]? = w.heap[a.block]?) : w'.cell? a = w.cell? a := by simp [World.cell?, h]
theorem RV.mono {E E' : Env} {w w' : World} (h : Le E w E' w') {c : AV} {v : Value} (r : RV E w c v) : RV E' w' c v := by
  induction r with
  | bool b => exact .bool b
  | int k n => exact .int k n
  | str s x e => exact .str s x e
  | nilp => exact .nilp
  | ptr b o hb => rw [← h.φ b hb]; exact .ptr b o (h.D b hb)
  | tp cs g off us hI hl hc hr h1 ih =>
    refine .tp cs g off us (fun hn => h.I g (hI hn)) hl (fun j u hu => ?_) ih h1
    have hn : cs ≠ [] := by
      intro e; subst e
      have : us = [] := List.eq_nil_of_length_eq_zero (by simpa using hl)
      subst this; simp at hu
    rw [cell_of_heap (w := w) (h.keep g (hI hn))]; exact hc j u hu
  | nils => exact .nils
  | sl b o len cap cap' ex hb hl hc hx hs =>
    rw [← h.φ b hb]
    refine .sl b o len cap cap' ex (h.D b hb) hl hc hx (fun hne => ?_)
    obtain ⟨c, e, fr, h1, h2⟩ := hs hne
    obtain ⟨c', fr', h3, h4⟩ := h.shape _ c e fr h1
    rw [h.φ b hb]
    exact ⟨c', e, fr', h3, by rw [h4]; exact h2⟩
  | ts cs len cap cap' ex g off us hI hl hc hr h1 hlen hcap hx ih =>
    refine .ts cs len cap cap' ex g off us (fun hn => h.I g (hI hn)) hl (fun j u hu => ?_) ih h1 hlen hcap hx
    have hn : cs ≠ [] := by
      intro e; subst e
      have : us = [] := List.eq_nil_of_length_eq_zero (by simpa using hl)
      subst this; simp at hu
    rw [cell_of_heap (w := w) (h.keep g (hI hn))]; exact hc j u hu
  | nilm => exact .nilm
  | map b hb => rw [← h.φ b hb]; exact .map b (h.D b hb)
  | nilf => exact .nilf
  | fn f as bs us vs hl hr hm hs ih1 ih2 => exact .fn f as bs us vs hl ih1 hm ih2
  | nili => exact .nili
  | ifc t v u hv ih => exact .ifc t v u ih
  | agg cs us hl hr h1 ih => exact .agg cs us hl ih h1
  | tup cs us hl hr ih => exact .tup cs us hl ih
theorem RL.mono {E E' : Env} {w w' : World} (h : Le E w E' w') {cs : List AV} {us : List Value} (r : RL E w cs us) : RL E' w' cs us :=
  ⟨r.len, fun j c u hc hu => (r.each j c u hc hu).mono h⟩
/-- One cell's value is one cell. -/
theorem RV.cells {E : Env} {w : World} {c : AV} {v : Value} (r : RV E w c v) (h : ∀ vs, c ≠ .tup vs) : RL E w c.cells v.cells.toList ∧ ∀ a ∈ c.cells, a.one = true := by
  cases r with
  | agg cs us hl hr h1 => exact ⟨⟨by simpa [AV.cells, AV.onCells, Value.cells] using hl, by simpa [AV.cells, AV.onCells, Value.cells] using hr⟩, by simpa [AV.cells, AV.onCells] using h1⟩
  | tup vs us hl hr => exact absurd rfl (h vs)
  | _ =>
    refine ⟨RL.cons ?_ (RL.nil _ _), fun a ha => ?_⟩
    · constructor <;> assumption
    · simp [AV.cells, AV.onCells] at ha; subst ha; rfl

/-- What a block of cells says. -/
structure Holds (E : Env) (w : World) (b : Id) (cs : List AV) (c : Array Value) (e : TypeId) (us : List Value) : Prop where
  heap : w.heap[(E.φ b).block]? = some (.cells c e (0, 0))
  row : RL E w cs us
  at_ : ∀ (j : Nat) (u : Value), us[j]? = some u → c[(E.φ b).off + j]? = some u
  one : ∀ a ∈ cs, a.one = true
/-- Each entry came before the clock, no two at once. -/
structure Born (ms : Array MapEntry) (clock : Nat) : Prop where
  lt : ∀ (i : Nat) (e : MapEntry), ms[i]? = some e → e.born < clock
  inj : ∀ (i j : Nat) (e e' : MapEntry), ms[i]? = some e → ms[j]? = some e' → e.born = e'.born → i = j
/-- What a block that is a map says. -/
structure Maps (E : Env) (w : World) (b : Id) (es : List (AV × AV)) (ms : Array MapEntry) (clock : Nat) : Prop where
  heap : w.heap[(E.φ b).block]? = some (.map ms clock)
  keys : RL E w (es.map (·.1)) (ms.toList.map (·.key))
  vals : RL E w (es.map (·.2)) (ms.toList.map (·.val))
  born : Born ms clock
structure RelH (o : Id → AO) (E : Env) (w : World) : Prop where
  cells : ∀ b cs, o b = .cells cs → ∃ c e us, Holds E w b cs c e us
  map : ∀ b es, o b = .map es → ∃ ms clock, Maps E w b es ms clock
  old : ∀ b, o b ≠ .dead → E.D b
  inj : ∀ b c, o b ≠ .dead → o c ≠ .dead → b ≠ c → (E.φ b).block ≠ (E.φ c).block
  apart : ∀ b, o b ≠ .dead → ¬ E.I (E.φ b).block
  seen : ∀ k, E.I k → k < w.heap.size
/-- The state fits the world. -/
structure Rel (s : St) (E : Env) (w : World) : Prop where
  n : ∀ b : Id, s.n.val ≤ b.val → ¬ E.D b
  h : RelH s.obj E w
/-- From one state to the next: what else lies in memory stays. -/
structure ExtH (n n' : Nat) (o : Id → AO) (E : Env) (w : World) (o' : Id → AO) (E' : Env) (w' : World) : Prop where
  D : ∀ b, E.D b → E'.D b
  φ : ∀ b : Id, E.D b → E'.φ b = E.φ b
  ids : ∀ b : Id, E'.D b → E.D b ∨ (n ≤ b.val ∧ b.val < n')
  I : ∀ k, E.I k → E'.I k
  seen : ∀ k, E'.I k → E.I k ∨ w.heap.size ≤ k ∨ ∃ b, o b ≠ .dead ∧ (E.φ b).block = k
  os : w'.os = w.os
  tape : w'.tape = w.tape
  output : w'.output = w.output
  size : w.heap.size ≤ w'.heap.size
  keep : ∀ k, k < w.heap.size → (∀ b, o b ≠ .dead → (E.φ b).block ≠ k) → w'.heap[k]? = w.heap[k]?
  shape : Shaped w w'
  new : ∀ b, o' b ≠ .dead → (∃ c, o c ≠ .dead ∧ (E.φ c).block = (E'.φ b).block) ∨ w.heap.size ≤ (E'.φ b).block
theorem ExtH.le {n n' : Nat} {o o' : Id → AO} {E E' : Env} {w w' : World} (h : ExtH n n' o E w o' E' w') (r : RelH o E w) : Le E w E' w' :=
  ⟨h.D, h.φ, h.I, fun k hk => h.keep k (r.seen k hk) (fun b hb e => r.apart b hb (by rw [e]; exact hk)), h.shape⟩
theorem ExtH.refl {n n' : Nat} {o : Id → AO} {E : Env} {w : World} : ExtH n n' o E w o E w :=
  ⟨fun _ h => h, fun _ _ => rfl, fun _ h => .inl h, fun _ h => h, fun _ h => .inl h, rfl, rfl, rfl, Nat.le_refl _, fun _ _ _ => rfl, .refl w, fun b hb => .inl ⟨b, hb, rfl⟩⟩
theorem ExtH.trans {n n1 m m1 : Nat} {o o1 o2 : Id → AO} {E E1 E2 : Env} {w w1 w2 : World} (h : ExtH n n1 o E w o1 E1 w1) (k : ExtH m m1 o1 E1 w1 o2 E2 w2) (hn : n ≤ m) (hm : n1 ≤ m1) : ExtH n m1 o E w o2 E2 w2 where
  D b hb := k.D b (h.D b hb)
  φ b hb := (k.φ b (h.D b hb)).trans (h.φ b hb)
  ids b hb := by
    rcases k.ids b hb with h1 | h1
    · rcases h.ids b h1 with h2 | h2
      · exact .inl h2
      · exact .inr ⟨h2.1, Nat.lt_of_lt_of_le h2.2 hm⟩
    · exact .inr ⟨Nat.le_trans hn h1.1, h1.2⟩
  I i hi := k.I i (h.I i hi)
  seen i hi := by
    rcases k.seen i hi with h1 | h1 | ⟨b, hb, e⟩
    · exact h.seen i h1
    · exact .inr (.inl (Nat.le_trans h.size h1))
    · rcases h.new b hb with ⟨c, hc, hce⟩ | hge
      · exact .inr (.inr ⟨c, hc, hce.trans e⟩)
      · exact .inr (.inl (by rw [← e]; exact hge))
  os := k.os.trans h.os
  tape := k.tape.trans h.tape
  output := k.output.trans h.output
  size := Nat.le_trans h.size k.size
  keep i hi hb := by
    rw [k.keep i (Nat.lt_of_lt_of_le hi h.size) ?_, h.keep i hi hb]
    intro b hb1 e
    rcases h.new b hb1 with ⟨c, hc, hce⟩ | hge
    · exact hb c hc (hce.trans e)
    · omega
  shape := h.shape.trans k.shape
  new b hb := by
    rcases k.new b hb with ⟨c, hc, hce⟩ | hge
    · rcases h.new c hc with ⟨d, hd, hde⟩ | hge
      · exact .inl ⟨d, hd, hde.trans hce⟩
      · exact .inr (by rw [← hce]; exact hge)
    · exact .inr (Nat.le_trans h.size hge)
/-- A draw moves nothing. -/
theorem Le.drew (E : Env) (w : World) : Le E w E w.drew := ⟨fun _ h => h, fun _ _ => rfl, fun _ h => h, fun _ _ => rfl, .of_old fun _ _ => rfl⟩
/-- A frame of the model's, slot by slot. -/
structure RF (E : Env) (w : World) (nt : Nat) (f : Fr AV) (a : Act) : Prop where
  slot : ∀ t, t < 256 → RV E w ((Sl.ofNat t).get f) (a.tmps.getD t Go.undef)
  size : a.tmps.size = nt
  defers : a.defers = []
theorem RF.mono {E E' : Env} {w w' : World} (h : Le E w E' w') {nt : Nat} {f : Fr AV} {a : Act} (r : RF E w nt f a) : RF E' w' nt f a :=
  ⟨fun t ht => (r.slot t ht).mono h, r.size, r.defers⟩
theorem RV.undef (E : Env) (w : World) : RV E w undef Go.undef := .tup [] [] rfl (fun j c u h => by simp at h)
end Go.Vm
