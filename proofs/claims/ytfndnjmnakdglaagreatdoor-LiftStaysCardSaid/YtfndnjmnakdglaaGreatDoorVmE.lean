/- The abstract machine is sound: what it says of the model's, operations that read. No condition. -/
import Derived.Test.YtfndnjmnakdglaaGreatDoorVmA
import Derived.Laws.Sem
import Derived.Laws.World
import Derived.WalkKit
import Derived.Lib.ConvBytes
import Derived.WideLaws
import Derived.LaidEql
import Derived.MapKept
import Derived.Laws.BytesString
import Derived.Laws.BytesArg
import Derived.Laws.StructEq
namespace Go.Vm
set_option linter.unusedVariables false

def AV.one : AV → Bool
  | .agg _ | .tup _ => false
  | _ => true
structure Env where
  φ : Id → Addr
  I : Nat → Prop
  D : Id → Prop
inductive RV (E : Env) (w : World) : AV → Value → Prop where
  | bool (b : Bool) : RV E w (.bool b) (.bool b)
  | int (k : IntKind) (n : Int) : RV E w (.int k n) (.int k n)
  | str (s : List UInt8) (x : ByteArray) (h : x.data.toList = s) : RV E w (.str s) (.string x)
  | nilp : RV E w .nilp (.pointer none)
  | ptr (b : Id) (o : Nat) (h : E.D b) : RV E w (.ptr b o) (.pointer (some ⟨(E.φ b).block, (E.φ b).off + o, none⟩))
  | tp (cs : List AV) (g off : Nat) (us : List Value) (hI : cs ≠ [] → E.I g) (hl : us.length = cs.length) (hc : ∀ (j : Nat) (u : Value), us[j]? = some u → w.cell? ⟨g, off + j, none⟩ = some u)
      (hr : ∀ (j : Nat) (c : AV) (u : Value), cs[j]? = some c → us[j]? = some u → RV E w c u) (h1 : ∀ c ∈ cs, c.one = true) : RV E w (.tp cs) (.pointer (some ⟨g, off, none⟩))
  | nils : RV E w .nils (.slice none 0 0)
  | sl (b : Id) (o len cap cap' : Nat) (ex : Nat) (h : E.D b) (hl : len ≤ cap) (hc : cap ≤ cap') (hx : ex = 0 → cap' = cap)
      (hs : ex ≠ 0 → ∃ c e fr, w.heap[(E.φ b).block]? = some (.cells c e fr) ∧ (E.φ b).off + o + cap' * ex ≤ c.size) :
      RV E w (.sl b o len cap ex) (.slice (some ⟨(E.φ b).block, (E.φ b).off + o, none⟩) len cap')
  | ts (cs : List AV) (len cap cap' : Nat) (ex : Bool) (g off : Nat) (us : List Value) (hI : cs ≠ [] → E.I g) (hl : us.length = cs.length) (hc : ∀ (j : Nat) (u : Value), us[j]? = some u → w.cell? ⟨g, off + j, none⟩ = some u)
      (hr : ∀ (j : Nat) (c : AV) (u : Value), cs[j]? = some c → us[j]? = some u → RV E w c u) (h1 : ∀ c ∈ cs, c.one = true) (hlen : len ≤ cap') (hcap : cap ≤ cap') (hx : ex = true → cap' = cap) {sp : Option Nat} (hsp : sp = none ∨ (len = 0 ∧ cap' = 0 ∧ cs = []) := by first | exact .inl rfl | assumption) : RV E w (.ts cs len cap ex) (.slice (some ⟨g, off, sp⟩) len cap')
  | nilm : RV E w .nilm (.map none)
  | map (b : Id) (h : E.D b) : RV E w (.map b) (.map (some (E.φ b).block))
  | nilf : RV E w .nilf .nilFunc
  | fn (f : Id) (as bs : List AV) (us vs : List Value) (hl : us.length = as.length) (hr : ∀ (j : Nat) (c : AV) (u : Value), as[j]? = some c → us[j]? = some u → RV E w c u)
      (hm : vs.length = bs.length) (hs : ∀ (j : Nat) (c : AV) (u : Value), bs[j]? = some c → vs[j]? = some u → RV E w c u) : RV E w (.fn f as bs) (.func (.func f.val) us.toArray vs.toArray)
  | nili : RV E w .nili .nilIface
  | ifc (t : TypeId) (v : AV) (u : Value) (h : RV E w v u) : RV E w (.ifc t v) (.iface t u)
  | agg (cs : List AV) (us : List Value) (hl : us.length = cs.length) (hr : ∀ (j : Nat) (c : AV) (u : Value), cs[j]? = some c → us[j]? = some u → RV E w c u) (h1 : ∀ c ∈ cs, c.one = true) : RV E w (.agg cs) (.agg us.toArray)
  | tup (cs : List AV) (us : List Value) (hl : us.length = cs.length) (hr : ∀ (j : Nat) (c : AV) (u : Value), cs[j]? = some c → us[j]? = some u → RV E w c u) : RV E w (.tup cs) (.tuple us.toArray)

structure RL (E : Env) (w : World) (cs : List AV) (us : List Value) : Prop where
  len : us.length = cs.length
  each : ∀ (j : Nat) (c : AV) (u : Value), cs[j]? = some c → us[j]? = some u → RV E w c u

theorem RL.nil (E : Env) (w : World) : RL E w [] [] := ⟨rfl, fun j c u h => by simp at h⟩
theorem RL.cons {E : Env} {w : World} {c : AV} {u : Value} {cs : List AV} {us : List Value} (h : RV E w c u) (hs : RL E w cs us) : RL E w (c :: cs) (u :: us) :=
  ⟨by simp [hs.len], fun j a v ha hv => by
    cases j with
    | zero => simp at ha hv; subst ha; subst hv; exact h
    | succ j => exact hs.each j a v (by simpa using ha) (by simpa using hv)⟩
theorem RL.cons_inv {E : Env} {w : World} {c : AV} {cs : List AV} {us : List Value} (h : RL E w (c :: cs) us) : ∃ u vs, us = u :: vs ∧ RV E w c u ∧ RL E w cs vs := by
  cases us with
  | nil => have := h.len; simp at this
  | cons u vs => exact ⟨u, vs, rfl, h.each 0 c u rfl rfl, by have := h.len; simpa using this, fun j a v ha hv => h.each (j + 1) a v (by simpa using ha) (by simpa using hv)⟩
theorem RL.append {E : Env} {w : World} {cs ds : List AV} {us vs : List Value} (h : RL E w cs us) (k : RL E w ds vs) : RL E w (cs ++ ds) (us ++ vs) := by
  refine ⟨by simp [h.len, k.len], fun j c u hc hu => ?_⟩
  by_cases hj : j < cs.length
  · rw [List.getElem?_append_left hj] at hc
    rw [List.getElem?_append_left (by rw [h.len]; exact hj)] at hu
    exact h.each j c u hc hu
  · rw [List.getElem?_append_right (by omega)] at hc
    rw [List.getElem?_append_right (by rw [h.len]; omega), h.len] at hu
    exact k.each _ c u hc hu
theorem RL.take {E : Env} {w : World} {cs : List AV} {us : List Value} (h : RL E w cs us) (n : Nat) : RL E w (cs.take n) (us.take n) :=
  ⟨by simp [h.len], fun j c u hc hu => by
    rw [List.getElem?_take] at hc hu
    split at hc
    · rename_i hj; rw [if_pos hj] at hu; exact h.each j c u hc hu
    · cases hc⟩
theorem RL.drop {E : Env} {w : World} {cs : List AV} {us : List Value} (h : RL E w cs us) (n : Nat) : RL E w (cs.drop n) (us.drop n) :=
  ⟨by simp [h.len], fun j c u hc hu => by rw [List.getElem?_drop] at hc hu; exact h.each _ c u hc hu⟩
theorem RL.get {E : Env} {w : World} {cs : List AV} {us : List Value} (h : RL E w cs us) {j : Nat} {c : AV} (hc : cs[j]? = some c) : ∃ u, us[j]? = some u ∧ RV E w c u := by
  have hj : j < us.length := by rw [h.len]; exact (List.getElem?_eq_some_iff.mp hc).1
  exact ⟨us[j], List.getElem?_eq_getElem hj, h.each j c _ hc (List.getElem?_eq_getElem hj)⟩

def Shaped (w w' : World) : Prop := ∀ (k : Nat) (c : Array Value) (e : TypeId) (fr : Nat × Nat), w.heap[k]? = some (.cells c e fr) → ∃ c' fr', w'.heap[k]? = some (.cells c' e fr') ∧ c'.size = c.size
structure Le (E : Env) (w : World) (E' : Env) (w' : World) : Prop where
  D : ∀ b, E.D b → E'.D b
  φ : ∀ b : Id, E.D b → E'.φ b = E.φ b
  I : ∀ k, E.I k → E'.I k
  keep : ∀ k, E.I k → w'.heap[k]? = w.heap[k]?
  shape : Shaped w w'
theorem Shaped.refl (w : World) : Shaped w w := fun k c e fr h => ⟨c, fr, h, rfl⟩
theorem Shaped.trans {w w1 w2 : World} (h : Shaped w w1) (k : Shaped w1 w2) : Shaped w w2 := fun i c e fr hi => by
  obtain ⟨c1, f1, h1, s1⟩ := h i c e fr hi
  obtain ⟨c2, f2, h2, s2⟩ := k i c1 e f1 h1
  exact ⟨c2, f2, h2, s2.trans s1⟩
theorem Shaped.of_old {w w' : World} (h : ∀ k, k < w.heap.size → w'.heap[k]? = w.heap[k]?) : Shaped w w' := fun k c e fr hk => ⟨c, fr, by rw [h k (Array.getElem?_eq_some_iff.mp hk).1]; exact hk, rfl⟩
theorem Le.refl (E : Env) (w : World) : Le E w E w := ⟨fun _ h => h, fun _ _ => rfl, fun _ h => h, fun _ _ => rfl, .refl w⟩
theorem cell_of_heap {w w' : World} {a : Addr} (h : w'.heap[a.block]? = w.heap[a.block]?) : w'.cell? a = w.cell? a := by simp [World.cell?, h]
theorem RV.mono {E E' : Env} {w w' : World} (h : Le E w E' w') {c : AV} {v : Value} (r : RV E w c v) : RV E' w' c v := by
  induction r with
  | bool b => exact .bool b
  | int k n => exact .int k n
  | str s x e => exact .str s x e
  | nilp => exact .nilp
  | ptr b o hb => rw [← h.φ b hb]; exact .ptr b o (h.D b hb)
  | tp cs g off us hI hl hc hr h1 ih =>
    refine .tp cs g off us (fun hn => h.I g (hI hn)) hl (fun j u hu => ?_) ih h1
    have hn : cs ≠ [] := by
      intro e; subst e
      have : us = [] := List.eq_nil_of_length_eq_zero (by simpa using hl)
      subst this; simp at hu
    rw [cell_of_heap (w := w) (h.keep g (hI hn))]; exact hc j u hu
  | nils => exact .nils
  | sl b o len cap cap' ex hb hl hc hx hs =>
    rw [← h.φ b hb]
    refine .sl b o len cap cap' ex (h.D b hb) hl hc hx (fun hne => ?_)
    obtain ⟨c, e, fr, h1, h2⟩ := hs hne
    obtain ⟨c', fr', h3, h4⟩ := h.shape _ c e fr h1
    rw [h.φ b hb]
    exact ⟨c', e, fr', h3, by rw [h4]; exact h2⟩
  | ts cs len cap cap' ex g off us hI hl hc hr h1 hlen hcap hx hsp ih =>
    refine .ts cs len cap cap' ex g off us (fun hn => h.I g (hI hn)) hl (fun j u hu => ?_) ih h1 hlen hcap hx
    have hn : cs ≠ [] := by
      intro e; subst e
      have : us = [] := List.eq_nil_of_length_eq_zero (by simpa using hl)
      subst this; simp at hu
    rw [cell_of_heap (w := w) (h.keep g (hI hn))]; exact hc j u hu
  | nilm => exact .nilm
  | map b hb => rw [← h.φ b hb]; exact .map b (h.D b hb)
  | nilf => exact .nilf
  | fn f as bs us vs hl hr hm hs ih1 ih2 => exact .fn f as bs us vs hl ih1 hm ih2
  | nili => exact .nili
  | ifc t v u hv ih => exact .ifc t v u ih
  | agg cs us hl hr h1 ih => exact .agg cs us hl ih h1
  | tup cs us hl hr ih => exact .tup cs us hl ih
theorem RL.mono {E E' : Env} {w w' : World} (h : Le E w E' w') {cs : List AV} {us : List Value} (r : RL E w cs us) : RL E' w' cs us :=
  ⟨r.len, fun j c u hc hu => (r.each j c u hc hu).mono h⟩
theorem RV.cells {E : Env} {w : World} {c : AV} {v : Value} (r : RV E w c v) (h : ∀ vs, c ≠ .tup vs) : RL E w c.cells v.cells.toList ∧ ∀ a ∈ c.cells, a.one = true := by
  cases r with
  | agg cs us hl hr h1 => exact ⟨⟨by simpa [AV.cells, AV.onCells, Value.cells] using hl, by simpa [AV.cells, AV.onCells, Value.cells] using hr⟩, by simpa [AV.cells, AV.onCells] using h1⟩
  | tup vs us hl hr => exact absurd rfl (h vs)
  | _ =>
    refine ⟨RL.cons ?_ (RL.nil _ _), fun a ha => ?_⟩
    · constructor <;> assumption
    · simp [AV.cells, AV.onCells] at ha; subst ha; rfl

structure Holds (E : Env) (w : World) (b : Id) (cs : List AV) (c : Array Value) (e : TypeId) (us : List Value) : Prop where
  heap : w.heap[(E.φ b).block]? = some (.cells c e (0, 0))
  row : RL E w cs us
  at_ : ∀ (j : Nat) (u : Value), us[j]? = some u → c[(E.φ b).off + j]? = some u
  one : ∀ a ∈ cs, a.one = true
structure Born (ms : Array MapEntry) (clock : Nat) : Prop where
  lt : ∀ (i : Nat) (e : MapEntry), ms[i]? = some e → e.born < clock
  inj : ∀ (i j : Nat) (e e' : MapEntry), ms[i]? = some e → ms[j]? = some e' → e.born = e'.born → i = j
structure Maps (E : Env) (w : World) (b : Id) (es : List (AV × AV)) (ms : Array MapEntry) (clock : Nat) : Prop where
  heap : w.heap[(E.φ b).block]? = some (.map ms clock)
  keys : RL E w (es.map (·.1)) (ms.toList.map (·.key))
  vals : RL E w (es.map (·.2)) (ms.toList.map (·.val))
  born : Born ms clock
structure RelH (o : Id → AO) (E : Env) (w : World) : Prop where
  cells : ∀ b cs, o b = .cells cs → ∃ c e us, Holds E w b cs c e us
  map : ∀ b es, o b = .map es → ∃ ms clock, Maps E w b es ms clock
  old : ∀ b, o b ≠ .dead → E.D b
  inj : ∀ b c, o b ≠ .dead → o c ≠ .dead → b ≠ c → (E.φ b).block ≠ (E.φ c).block
  apart : ∀ b, o b ≠ .dead → ¬ E.I (E.φ b).block
  seen : ∀ k, E.I k → k < w.heap.size
class Lay where
  tabs : List (Nat × (Option Obj → Prop))
  typed : List (Id × TypeId × Nat)
def Typed (E : Env) (w : World) (b : Id) (T : TypeId) (n : Nat) : Prop := E.D b ∧ (E.φ b).off = 0 ∧ ∃ c fr, w.heap[(E.φ b).block]? = some (.cells c T fr) ∧ c.size = n
theorem Typed.on {E E' : Env} {w w' : World} {b : Id} {T : TypeId} {n : Nat} (h : Typed E w b T n) (hD : ∀ b, E.D b → E'.D b) (hφ : ∀ b : Id, E.D b → E'.φ b = E.φ b) (hs : Shaped w w') : Typed E' w' b T n := by
  obtain ⟨h1, h2, c, fr, h4, h5⟩ := h
  obtain ⟨c', fr', h6, h7⟩ := hs _ c T fr h4
  exact ⟨hD b h1, by rw [hφ b h1]; exact h2, c', fr', by rw [hφ b h1]; exact h6, h7.trans h5⟩
section
variable [Lay]
structure Laid (E : Env) (w : World) : Prop where
  tabs : ∀ k p, (k, p) ∈ Lay.tabs → E.I k ∧ p w.heap[k]?
  typed : ∀ b T n, (b, T, n) ∈ Lay.typed → Typed E w b T n
class Bare : Prop where
  none : (Lay.typed : List (Id × TypeId × Nat)) = []
theorem Laid.of [Bare] {E : Env} {w : World} (h : ∀ k p, (k, p) ∈ Lay.tabs → E.I k ∧ p w.heap[k]?) : Laid E w := ⟨h, fun b T n hm => by rw [Bare.none] at hm; cases hm⟩
theorem Laid.on [Bare] {E E' : Env} {w w' : World} (h : Laid E w) (hI : ∀ k, E.I k → E'.I k) (hk : ∀ k, E.I k → w'.heap[k]? = w.heap[k]?) : Laid E' w' := .of fun k o hm => ⟨hI k (h.tabs k o hm).1, by rw [hk k (h.tabs k o hm).1]; exact (h.tabs k o hm).2⟩
theorem Laid.le {E E' : Env} {w w' : World} (h : Laid E w) (k : Le E w E' w') : Laid E' w' :=
  ⟨fun i o hm => ⟨k.I i (h.tabs i o hm).1, by rw [k.keep i (h.tabs i o hm).1]; exact (h.tabs i o hm).2⟩, fun b T n hm => (h.typed b T n hm).on k.D k.φ k.shape⟩
structure Rel (s : St) (E : Env) (w : World) : Prop where
  n : ∀ b : Id, s.n.val ≤ b.val → ¬ E.D b
  h : RelH s.obj E w
  laid : Laid E w
end
structure ExtH (n n' : Nat) (o : Id → AO) (E : Env) (w : World) (o' : Id → AO) (E' : Env) (w' : World) : Prop where
  D : ∀ b, E.D b → E'.D b
  φ : ∀ b : Id, E.D b → E'.φ b = E.φ b
  ids : ∀ b : Id, E'.D b → E.D b ∨ (n ≤ b.val ∧ b.val < n')
  I : ∀ k, E.I k → E'.I k
  seen : ∀ k, E'.I k → E.I k ∨ w.heap.size ≤ k ∨ ∃ b, o b ≠ .dead ∧ (E.φ b).block = k
  os : w'.os = w.os
  tape : w'.tape = w.tape
  output : w'.output = w.output
  size : w.heap.size ≤ w'.heap.size
  keep : ∀ k, k < w.heap.size → (∀ b, o b ≠ .dead → (E.φ b).block ≠ k) → w'.heap[k]? = w.heap[k]?
  shape : Shaped w w'
  new : ∀ b, o' b ≠ .dead → (∃ c, o c ≠ .dead ∧ (E.φ c).block = (E'.φ b).block) ∨ w.heap.size ≤ (E'.φ b).block
theorem ExtH.le {n n' : Nat} {o o' : Id → AO} {E E' : Env} {w w' : World} (h : ExtH n n' o E w o' E' w') (r : RelH o E w) : Le E w E' w' :=
  ⟨h.D, h.φ, h.I, fun k hk => h.keep k (r.seen k hk) (fun b hb e => r.apart b hb (by rw [e]; exact hk)), h.shape⟩
theorem ExtH.refl {n n' : Nat} {o : Id → AO} {E : Env} {w : World} : ExtH n n' o E w o E w :=
  ⟨fun _ h => h, fun _ _ => rfl, fun _ h => .inl h, fun _ h => h, fun _ h => .inl h, rfl, rfl, rfl, Nat.le_refl _, fun _ _ _ => rfl, .refl w, fun b hb => .inl ⟨b, hb, rfl⟩⟩
theorem ExtH.trans {n n1 m m1 : Nat} {o o1 o2 : Id → AO} {E E1 E2 : Env} {w w1 w2 : World} (h : ExtH n n1 o E w o1 E1 w1) (k : ExtH m m1 o1 E1 w1 o2 E2 w2) (hn : n ≤ m) (hm : n1 ≤ m1) : ExtH n m1 o E w o2 E2 w2 where
  D b hb := k.D b (h.D b hb)
  φ b hb := (k.φ b (h.D b hb)).trans (h.φ b hb)
  ids b hb := by
    rcases k.ids b hb with h1 | h1
    · rcases h.ids b h1 with h2 | h2
      · exact .inl h2
      · exact .inr ⟨h2.1, Nat.lt_of_lt_of_le h2.2 hm⟩
    · exact .inr ⟨Nat.le_trans hn h1.1, h1.2⟩
  I i hi := k.I i (h.I i hi)
  seen i hi := by
    rcases k.seen i hi with h1 | h1 | ⟨b, hb, e⟩
    · exact h.seen i h1
    · exact .inr (.inl (Nat.le_trans h.size h1))
    · rcases h.new b hb with ⟨c, hc, hce⟩ | hge
      · exact .inr (.inr ⟨c, hc, hce.trans e⟩)
      · exact .inr (.inl (by rw [← e]; exact hge))
  os := k.os.trans h.os
  tape := k.tape.trans h.tape
  output := k.output.trans h.output
  size := Nat.le_trans h.size k.size
  keep i hi hb := by
    rw [k.keep i (Nat.lt_of_lt_of_le hi h.size) ?_, h.keep i hi hb]
    intro b hb1 e
    rcases h.new b hb1 with ⟨c, hc, hce⟩ | hge
    · exact hb c hc (hce.trans e)
    · omega
  shape := h.shape.trans k.shape
  new b hb := by
    rcases k.new b hb with ⟨c, hc, hce⟩ | hge
    · rcases h.new c hc with ⟨d, hd, hde⟩ | hge
      · exact .inl ⟨d, hd, hde.trans hce⟩
      · exact .inr (by rw [← hce]; exact hge)
    · exact .inr (Nat.le_trans h.size hge)
theorem Le.drew (E : Env) (w : World) : Le E w E w.drew := ⟨fun _ h => h, fun _ _ => rfl, fun _ h => h, fun _ _ => rfl, .of_old fun _ _ => rfl⟩
structure RF (E : Env) (w : World) (nt : Nat) (f : Fr AV) (a : Act) : Prop where
  slot : ∀ t, t < 256 → RV E w ((Sl.ofNat t).get f) (a.tmps.getD t Go.undef)
  size : a.tmps.size = nt
  defers : a.defers = []
theorem RF.mono {E E' : Env} {w w' : World} (h : Le E w E' w') {nt : Nat} {f : Fr AV} {a : Act} (r : RF E w nt f a) : RF E' w' nt f a :=
  ⟨fun t ht => (r.slot t ht).mono h, r.size, r.defers⟩
theorem RV.undef (E : Env) (w : World) : RV E w undef Go.undef := .tup [] [] rfl (fun j c u h => by simp at h)
end Go.Vm
namespace Go.Vm
set_option linter.unusedVariables false
variable {P : Program}

theorem valAt1_rv {v : Value} {c : AV} (h : valAt1 v = some c) (E : Env) (w : World) : RV E w c v ∧ c.one = true := by
  unfold valAt1 at h
  split at h <;> first | (cases h; refine ⟨?_, rfl⟩; constructor; done) | (cases h; exact ⟨.str _ _ rfl, rfl⟩) | cases h
theorem valAt1s_rl {vs : List Value} {cs : List AV} (h : vs.mapM valAt1 = some cs) (E : Env) (w : World) : RL E w cs vs ∧ ∀ c ∈ cs, c.one = true := by
  induction vs generalizing cs with
  | nil => simp at h; subst h; exact ⟨RL.nil _ _, fun c hc => by simp at hc⟩
  | cons v vs ih =>
    simp only [List.mapM_cons, Option.bind_eq_bind, Option.bind_eq_some_iff, Option.pure_def, Option.some.injEq] at h
    obtain ⟨c, hc, ds, hd, rfl⟩ := h
    obtain ⟨h1, h2⟩ := valAt1_rv hc E w
    obtain ⟨h3, h4⟩ := ih hd
    exact ⟨RL.cons h1 h3, fun a ha => by rcases List.mem_cons.mp ha with rfl | ha <;> first | exact h2 | exact h4 a ha⟩
theorem valAt_rv {v : Value} {c : AV} (h : valAt v = some c) (E : Env) (w : World) : RV E w c v := by
  cases v with
  | agg cs =>
    simp only [valAt, Option.map_eq_some_iff] at h
    obtain ⟨l, hl, rfl⟩ := h
    obtain ⟨h1, h2⟩ := valAt1s_rl hl E w
    have := RV.agg (E := E) (w := w) l cs.toList h1.len h1.each h2
    simpa using this
  | _ =>
    simp only [valAt] at h
    exact (valAt1_rv h E w).1
theorem cod_rv {x : Operand} {c : CO} (h : cod x = some c) {E : Env} {w : World} {nt : Nat} {f : Fr AV} {a : Act} (r : RF E w nt f a) : RV E w (ev1 f c) (a.eval x) := by
  cases x with
  | tmp t =>
    simp only [cod] at h
    split at h
    · cases h; exact r.slot t (by assumption)
    · cases h
  | const v =>
    simp only [cod, Option.map_eq_some_iff] at h
    obtain ⟨c, hc, rfl⟩ := h
    exact valAt_rv hc E w
  | global g => cases h
  | func g =>
    simp only [cod] at h
    split at h
    · rename_i hg
      cases h
      have := RV.fn (E := E) (w := w) (.ofNat g) [] [] [] [] rfl (fun j c u h => by simp at h) rfl (fun j c u h => by simp at h)
      rw [Id.val_ofNat hg] at this
      exact this
    · cases h
theorem cods_rl {xs : List Operand} {cs : List CO} (h : xs.mapM cod = some cs) {E : Env} {w : World} {nt : Nat} {f : Fr AV} {a : Act} (r : RF E w nt f a) : RL E w (evs f cs) (xs.map a.eval) := by
  induction xs generalizing cs with
  | nil => simp at h; subst h; exact RL.nil _ _
  | cons x xs ih =>
    simp only [List.mapM_cons, Option.bind_eq_bind, Option.bind_eq_some_iff, Option.pure_def, Option.some.injEq] at h
    obtain ⟨c, hc, ds, hd, rfl⟩ := h
    exact RL.cons (cod_rv hc r) (ih hd)

def Out (P : Program) (m : Sem Next) (n n' : Nat) (o : Id → AO) (E : Env) (w : World) (r : AV) (o' : Id → AO) : Prop :=
  ∃ E' w' v, (m.run P w = .ok (.value v) w' ∨ (m.run P w = .ok .skip w' ∧ v = Go.undef)) ∧ RelH o' E' w' ∧ RV E' w' r v ∧ ExtH n n' o E w o' E' w'
theorem Out.same {m : Sem Next} {n n' : Nat} {o : Id → AO} {E : Env} {w : World} {r : AV} {v : Value} (h : m.run P w = .ok (.value v) w) (hr : RelH o E w) (hv : RV E w r v) : Out P m n n' o E w r o :=
  ⟨E, w, v, .inl h, hr, hv, .refl⟩
end Go.Vm
namespace Go.Vm
set_option linter.unusedVariables false
variable {P : Program}

section
variable {v : AV} {r : AV} {s' : St}
theorem onBool_ok {k : Bool → R} (h : v.onBool .no k = .ok r s') : ∃ b, v = .bool b ∧ k b = .ok r s' := by
  cases v <;> first | exact ⟨_, rfl, h⟩ | exact R.noConfusion h
theorem onInt_ok {k : IntKind → Int → R} (h : v.onInt .no k = .ok r s') : ∃ j n, v = .int j n ∧ k j n = .ok r s' := by
  cases v <;> first | exact ⟨_, _, rfl, h⟩ | exact R.noConfusion h
theorem onStr_ok {k : List UInt8 → R} (h : v.onStr .no k = .ok r s') : ∃ l, v = .str l ∧ k l = .ok r s' := by
  cases v <;> first | exact ⟨_, rfl, h⟩ | exact R.noConfusion h
theorem onAgg_ok {k : List AV → R} (h : v.onAgg .no k = .ok r s') : ∃ l, v = .agg l ∧ k l = .ok r s' := by
  cases v <;> first | exact ⟨_, rfl, h⟩ | exact R.noConfusion h
theorem onTup_ok {k : List AV → R} (h : v.onTup .no k = .ok r s') : ∃ l, v = .tup l ∧ k l = .ok r s' := by
  cases v <;> first | exact ⟨_, rfl, h⟩ | exact R.noConfusion h
theorem onFn_ok {k : Id → List AV → List AV → R} (h : v.onFn .no k = .ok r s') : ∃ g a b, v = .fn g a b ∧ k g a b = .ok r s' := by
  cases v <;> first | exact ⟨_, _, _, rfl, h⟩ | exact R.noConfusion h
theorem onPtr_ok {k : Id → Nat → R} {g : List AV → R} (h : v.onPtr .no k g = .ok r s') : (∃ b o, v = .ptr b o ∧ k b o = .ok r s') ∨ ∃ cs, v = .tp cs ∧ g cs = .ok r s' := by
  cases v <;> first | exact .inl ⟨_, _, rfl, h⟩ | exact .inr ⟨_, rfl, h⟩ | exact R.noConfusion h
theorem onSl_ok {d e : R} {k : Id → Nat → Nat → Nat → Nat → R} {g : List AV → Nat → Nat → Bool → R} (h : v.onSl d e k g = .ok r s') :
    (v = .nils ∧ e = .ok r s') ∨ (∃ b o l c x, v = .sl b o l c x ∧ k b o l c x = .ok r s') ∨ (∃ cs l c x, v = .ts cs l c x ∧ g cs l c x = .ok r s') ∨ (d = .ok r s' ∧ (v ≠ .nils)) := by
  cases v <;> first
    | exact .inl ⟨rfl, h⟩
    | exact .inr (.inl ⟨_, _, _, _, _, rfl, h⟩)
    | exact .inr (.inr (.inl ⟨_, _, _, _, rfl, h⟩))
    | exact .inr (.inr (.inr ⟨h, fun h => by cases h⟩))
theorem onMap_ok {d e : R} {k : Id → R} (h : v.onMap d e k = .ok r s') : (v = .nilm ∧ e = .ok r s') ∨ (∃ b, v = .map b ∧ k b = .ok r s') ∨ d = .ok r s' := by
  cases v <;> first | exact .inl ⟨rfl, h⟩ | exact .inr (.inl ⟨_, rfl, h⟩) | exact .inr (.inr h)
theorem onCells_ok {o : AO} {k : List AV → R} (h : o.onCells .no k = .ok r s') : ∃ cs, o = .cells cs ∧ k cs = .ok r s' := by
  cases o <;> first | exact ⟨_, rfl, h⟩ | exact R.noConfusion h
theorem onMapO_ok {o : AO} {k : List (AV × AV) → R} (h : o.onMap .no k = .ok r s') : ∃ es, o = .map es ∧ k es = .ok r s' := by
  cases o <;> first | exact ⟨_, rfl, h⟩ | exact R.noConfusion h
theorem br_ok {b : Bool} {x : R} (h : br b x .no = .ok r s') : b = true ∧ x = .ok r s' := by
  cases b <;> first | exact ⟨rfl, h⟩ | exact R.noConfusion h
theorem br_not_ok {b : Bool} {x : R} (h : br b .no x = .ok r s') : b = false ∧ x = .ok r s' := by
  cases b <;> first | exact ⟨rfl, h⟩ | exact R.noConfusion h
theorem idx_ok {n : Nat} {k : Nat → R} (h : v.idx n k = .ok r s') : ∃ (j : IntKind) (m : Nat), v = .int j (m : Int) ∧ m < n ∧ k m = .ok r s' := by
  obtain ⟨j, i, rfl, h⟩ := onInt_ok h
  cases i with
  | ofNat m => obtain ⟨h1, h2⟩ := br_ok h; exact ⟨j, m, rfl, Nat.le_of_ble_eq_true h1, h2⟩
  | negSucc m => exact R.noConfusion h
theorem bnd_ok {x : Option AV} {y d : Nat} {k : Nat → R} (h : bnd x y d k = .ok r s') : (x = none ∧ k d = .ok r s') ∨ ∃ (j : IntKind) (m : Nat), x = some (.int j (m : Int)) ∧ m ≤ y ∧ k m = .ok r s' := by
  cases x with
  | none => exact .inl ⟨rfl, h⟩
  | some v => obtain ⟨j, m, rfl, h1, h2⟩ := idx_ok (v := v) h; exact .inr ⟨j, m, rfl, by omega, h2⟩
theorem alloc_ok {s : St} {o : AO} {k : Id → St → R} (h : s.alloc o k = .ok r s') : ∃ s1 : St, s1.n.val = s.n.val + 1 ∧ (∀ c, s1.obj c = if c = s.n then o else s.obj c) ∧ k s.n s1 = .ok r s' := by
  rcases St.alloc_spec s o k with e | ⟨s1, h1, h2, e⟩
  · rw [e] at h; exact R.noConfusion h
  · rw [e] at h; exact ⟨s1, h1, h2, h⟩
end
@[simp] theorem br_true {β : Type} (x y : β) : br true x y = x := rfl
@[simp] theorem br_false {β : Type} (x y : β) : br false x y = y := rfl
theorem ok_inj {r v : AV} {s s' : St} (h : R.ok v s = R.ok r s') : v = r ∧ s = s' := by cases h; exact ⟨rfl, rfl⟩

section
variable {E : Env} {w : World}
theorem rv_bool {b : Bool} {v : Value} (h : RV E w (.bool b) v) : v = .bool b := by cases h; rfl
theorem rv_int {k : IntKind} {n : Int} {v : Value} (h : RV E w (.int k n) v) : v = .int k n := by cases h; rfl
theorem rv_str {l : List UInt8} {v : Value} (h : RV E w (.str l) v) : ∃ x : ByteArray, v = .string x ∧ x.data.toList = l := by cases h with | str _ x e => exact ⟨x, rfl, e⟩
theorem rv_agg {l : List AV} {v : Value} (h : RV E w (.agg l) v) : ∃ us : List Value, v = .agg us.toArray ∧ RL E w l us ∧ ∀ c ∈ l, c.one = true := by
  cases h with | agg _ us hl hr h1 => exact ⟨us, rfl, ⟨hl, hr⟩, h1⟩
theorem rv_tup {l : List AV} {v : Value} (h : RV E w (.tup l) v) : ∃ us : List Value, v = .tuple us.toArray ∧ RL E w l us := by
  cases h with | tup _ us hl hr => exact ⟨us, rfl, ⟨hl, hr⟩⟩
theorem RV.one {c : AV} {v : Value} (h : RV E w c v) (h1 : c.one = true) : v.oneCell' = true := by
  cases h <;> first | rfl | cases h1
end
theorem run_sizeOf {t : TypeId} {n : Nat} (h : sizeAt P t = some n) (w : World) : (sizeOf t).run P w = .ok n w := by
  simp only [sizeAt, Option.map_eq_some_iff] at h
  obtain ⟨i, hi, rfl⟩ := h
  simp [sizeOf, typeInfo, hi]
theorem run_isAgg {t : TypeId} {b : Bool} (h : aggAt P t = some b) (w : World) : (isAgg t).run P w = .ok b w := by
  simp only [aggAt, Option.bind_eq_bind, Option.bind_eq_some_iff] at h
  obtain ⟨d, hd, h⟩ := h
  simp only [isAgg, Sem.run_bind, run_underlying hd, Result.andThen_ok]
  cases d <;> simp_all
theorem addr_add (g o n : Nat) : (⟨g, o, none⟩ : Addr).add n = ⟨g, o + n, none⟩ := by
  unfold Addr.add; split <;> simp_all
theorem run_loadVar {t : TypeId} {agg : Bool} {sz : Nat} (ha : aggAt P t = some agg) (hs : sizeAt P t = some sz) {E : Env} {w : World} {cs : List AV} {us : List Value} {g off : Nat} {r : AV} {s s' : St}
    (hrow : RL E w cs us) (hc : ∀ (j : Nat) (u : Value), us[j]? = some u → w.cell? ⟨g, off + j, none⟩ = some u) (h1 : ∀ c ∈ cs, c.one = true) (h : wrap1 agg sz cs s = .ok r s') :
    s = s' ∧ ∃ v, (loadVar t ⟨g, off, none⟩).run P w = .ok v w ∧ RV E w r v := by
  cases agg with
  | false =>
    cases cs with
    | nil => exact R.noConfusion h
    | cons c cs =>
      obtain ⟨rfl, rfl⟩ := ok_inj h
      obtain ⟨u, us, rfl, h2, _⟩ := hrow.cons_inv
      refine ⟨rfl, u, ?_, h2⟩
      have := hc 0 u rfl
      simp only [Nat.add_zero] at this
      simp [loadVar, run_isAgg ha, this]
  | true =>
    obtain ⟨h2, h3⟩ := br_ok h
    obtain ⟨rfl, rfl⟩ := ok_inj h3
    have hl : (cs.take sz).length = sz := by have := Nat.eq_of_beq_eq_true h2; rwa [ln_eq, tk_eq] at this
    have hu : (us.take sz).length = sz := by rw [(hrow.take sz).len, hl]
    refine ⟨rfl, .agg (us.take sz).toArray, ?_, ?_⟩
    · have := run_loadCells_list (P := P) (w := w) ⟨g, off, none⟩ (us.take sz) (fun j v hj => by
        rw [addr_add]; rw [List.getElem?_take] at hj; split at hj
        · exact hc j v hj
        · cases hj)
      rw [hu] at this
      simp [loadVar, run_isAgg ha, run_sizeOf hs, this]
    · rw [tk_eq]
      exact .agg _ _ (hrow.take sz).len (hrow.take sz).each (fun c hc => h1 c (List.mem_of_mem_take hc))
theorem holds_cell {E : Env} {w : World} {b : Id} {cs : List AV} {c : Array Value} {e : TypeId} {us : List Value} (H : Holds E w b cs c e us) (j : Nat) (u : Value) (h : us[j]? = some u) :
    w.cell? ⟨(E.φ b).block, (E.φ b).off + j, none⟩ = some u := by
  simp [World.cell?, H.heap, H.at_ j u h]

section
variable {E : Env} {w : World} {nt : Nat} {f : Fr AV} {a : Act} {s s' : St} {r : AV} {call : CallT} {n n' : Nat} {o : Oper} {x y z : Operand} {cx cy cz : CO}
theorem s_mv (ho : o.op = .move x ∨ o.op = .assign x) (hx : cod x = some cx) (rf : RF E w nt f a) (rh : RelH s.obj E w) (h : opMv cx call f s = .ok r s') : s' = s ∧ Out P (execOp a.eval o) n n' s.obj E w r s.obj := by
  obtain ⟨rfl, rfl⟩ := ok_inj h
  refine ⟨rfl, .same (v := a.eval x) ?_ rh (cod_rv hx rf)⟩
  rcases ho with ho | ho <;> simp [execOp, ho]
theorem s_pick (ho : o.op = .pick x y z) (hx : cod x = some cx) (hy : cod y = some cy) (hz : cod z = some cz) (rf : RF E w nt f a) (rh : RelH s.obj E w) (h : opPick cx cy cz call f s = .ok r s') : s' = s ∧ Out P (execOp a.eval o) n n' s.obj E w r s.obj := by
  obtain ⟨b, hb, h⟩ := onBool_ok h
  obtain ⟨rfl, rfl⟩ := ok_inj h
  have h1 := cod_rv hx rf
  rw [hb] at h1
  have h2 := rv_bool h1
  cases b with
  | true => exact ⟨rfl, .same (v := a.eval y) (by simp [execOp, ho, h2, asBool]) rh (cod_rv hy rf)⟩
  | false => exact ⟨rfl, .same (v := a.eval z) (by simp [execOp, ho, h2, asBool]) rh (cod_rv hz rf)⟩
theorem s_nilck (ho : o.op = .nilCheck x) (hx : cod x = some cx) (rf : RF E w nt f a) (rh : RelH s.obj E w) (h : opNilck cx call f s = .ok r s') : s' = s ∧ Out P (execOp a.eval o) n n' s.obj E w r s.obj := by
  have h1 := cod_rv hx rf
  unfold opNilck at h
  generalize ev1 f cx = v at h h1
  generalize hu : a.eval x = u at h1
  have key : (execOp a.eval o).run P w = .ok (.value u) w ∧ s' = s ∧ r = v := by
    cases h1 <;> first
      | exact R.noConfusion h
      | (obtain ⟨rfl, rfl⟩ := ok_inj h; exact ⟨by simp [execOp, ho, hu], rfl, rfl⟩)
  obtain ⟨k1, rfl, rfl⟩ := key
  exact ⟨rfl, .same k1 rh h1⟩
theorem s_load {t : TypeId} {agg : Bool} {sz : Nat} (ho : o.op = .load t x) (ha : aggAt P t = some agg) (hs : sizeAt P t = some sz) (hx : cod x = some cx) (rf : RF E w nt f a) (rh : RelH s.obj E w)
    (h : opLoad agg sz cx call f s = .ok r s') : s' = s ∧ Out P (execOp a.eval o) n n' s.obj E w r s.obj := by
  have h1 := cod_rv hx rf
  rcases onPtr_ok h with ⟨b, off, hv, h⟩ | ⟨cs, hv, h⟩
  · rw [hv] at h1
    obtain ⟨cs, hcs, h⟩ := onCells_ok h
    obtain ⟨c, e, us, H⟩ := rh.cells b cs hcs
    generalize hu : a.eval x = u at h1
    cases h1 with | ptr _ _ hD =>
    rw [dr_eq] at h
    obtain ⟨rfl, v, h2, h3⟩ := run_loadVar ha hs (g := (E.φ b).block) (off := (E.φ b).off + off) (H.row.drop off) (fun j u hj => by
      rw [List.getElem?_drop] at hj; rw [Nat.add_assoc]; exact holds_cell H _ u hj) (fun c hc => H.one c (List.mem_of_mem_drop hc)) h
    exact ⟨rfl, .same (v := v) (by simp [execOp, ho, hu, Instr.loadAt, Instr.sureAddr, h2]) rh h3⟩
  · rw [hv] at h1
    generalize hu : a.eval x = u at h1
    cases h1 with | tp _ g off us hI hl hc hr ho1 =>
    obtain ⟨rfl, v, h2, h3⟩ := run_loadVar ha hs (g := g) (off := off) ⟨hl, hr⟩ hc ho1 h
    exact ⟨rfl, .same (v := v) (by simp [execOp, ho, hu, Instr.loadAt, Instr.sureAddr, h2]) rh h3⟩
end
end Go.Vm
namespace Go.Vm
set_option linter.unusedVariables false
variable {P : Program}
section
variable {E : Env} {w : World} {nt : Nat} {f : Fr AV} {a : Act} {s s' : St} {r : AV} {call : CallT} {n n' : Nat} {o : Oper} {x y z : Operand} {cx cy cz : CO}

theorem run_eqGuard_int (op : BinOp) (t : TypeId) (x y : Operand) (j k : IntKind) (m n : Int) (w : World) : (eqGuard op t x y (.int j m) (.int k n)).run P w = .ok () w := by
  unfold eqGuard; split <;> rfl
theorem run_eqGuard_str (op : BinOp) (t : TypeId) (x y : Operand) (a b : ByteArray) (w : World) : (eqGuard op t x y (.string a) (.string b)).run P w = .ok () w := by
  unfold eqGuard; split <;> rfl
theorem intBin_ok {op : BinOp} {j k : IntKind} {m n : Int} (t : TypeId) (h : intBin op j m k n s = .ok r s') (w : World) :
    s' = s ∧ ∃ v, (binOp op t (.int j m) (.int k n)).run P w = .ok v w ∧ RV E w r v := by
  cases op
  case shl =>
    obtain ⟨h1, h2⟩ := br_not_ok h
    obtain ⟨rfl, rfl⟩ := ok_inj h2
    rw [ilt_eq] at h1
    refine ⟨rfl, _, ?_, .int _ _⟩
    have : ¬ n < 0 := by simpa using h1
    simp [binOp, Op.shift, this, wr_eq]
  case shr =>
    obtain ⟨h1, h2⟩ := br_not_ok h
    obtain ⟨rfl, rfl⟩ := ok_inj h2
    rw [ilt_eq] at h1
    refine ⟨rfl, _, ?_, .int _ _⟩
    have : ¬ n < 0 := by simpa using h1
    simp [binOp, Op.shift, this]
  case quo =>
    obtain ⟨h0, h⟩ := br_ok h
    obtain ⟨h1, h2⟩ := br_not_ok h
    obtain ⟨rfl, rfl⟩ := ok_inj h2
    have e := (keq_iff _ _).mp h0
    subst e
    rw [ieq_eq] at h1
    refine ⟨rfl, _, ?_, .int _ _⟩
    have : ¬ n = 0 := by simpa using h1
    simp [binOp, Op.intDiv, this, wr_eq]
  case rem =>
    obtain ⟨h0, h⟩ := br_ok h
    obtain ⟨h1, h2⟩ := br_not_ok h
    obtain ⟨rfl, rfl⟩ := ok_inj h2
    have e := (keq_iff _ _).mp h0
    subst e
    rw [ieq_eq] at h1
    refine ⟨rfl, _, ?_, .int _ _⟩
    have : ¬ n = 0 := by simpa using h1
    simp [binOp, Op.intDiv, this]
  all_goals
    obtain ⟨h0, h⟩ := br_ok h
    obtain ⟨rfl, rfl⟩ := ok_inj h
    have e := (keq_iff _ _).mp h0
    subst e
    refine ⟨rfl, _, ?_, by first | exact .int _ _ | exact .bool _⟩
    first
      | (simp [binOp, Op.intArith, wr_eq, iadd_eq, ineg_eq]; done)
      | (simp [binOp, Op.intArith, wr_eq, iadd_eq, ineg_eq]; rfl)
      | (simp [binOp, Op.intBits]; done)
      | (simp [binOp, Op.intCmp, ieq_eq, ilt_eq]; done)
      | (simp only [binOp, Op.intCmp, ieq_eq, ilt_eq]; cases hb : (m == n) <;> simp [bne, hb]; done)
      | (simp only [binOp, Op.intCmp, ilt_eq]; by_cases hb : n < m <;> simp [hb] <;> omega)
      | (simp only [binOp, Op.intCmp, ilt_eq]; by_cases hb : m < n <;> simp [hb] <;> omega)
theorem strBin_ok {op : BinOp} {l m : List UInt8} {p q : ByteArray} (t : TypeId) (hp : p.data.toList = l) (hq : q.data.toList = m) (h : strBin op l m s = .ok r s') (w : World) :
    s' = s ∧ ∃ v, (binOp op t (.string p) (.string q)).run P w = .ok v w ∧ RV E w r v := by
  subst hp; subst hq
  have e1 := ByteArray.toList_eq p
  have e2 := ByteArray.toList_eq q
  cases op
  case add =>
    obtain ⟨h0, h⟩ := br_ok h
    obtain ⟨rfl, rfl⟩ := ok_inj h
    have h1 := Nat.le_of_ble_eq_true h0
    rw [ln_eq, ln_eq] at h1
    have h2 : ¬ (((p.size + q.size : Nat) : Int) > IntKind.i64.max) := by
      have e3 : p.size = p.data.toList.length := Array.length_toList.symm
      have e4 : q.size = q.data.toList.length := Array.length_toList.symm
      have h1' : p.data.toList.length + q.data.toList.length ≤ 9223372036854775807 := h1
      simp only [IntKind.max, IntKind.signed, IntKind.bits]
      simp; omega
    refine ⟨rfl, .string (p ++ q), ?_, ?_⟩
    · simp only [binOp, Op.stringOp, if_neg h2]; rfl
    · rw [apd_eq]; exact .str _ _ (by simp)
  all_goals first
    | exact R.noConfusion h
    | (obtain ⟨rfl, rfl⟩ := ok_inj h
       refine ⟨rfl, _, ?_, .bool _⟩
       simp only [binOp, Op.stringOp, e1, e2, beqs_eq]
       first | rfl | (cases p.data.toList == q.data.toList <;> rfl))
theorem s_bin {op : BinOp} {t u : TypeId} (ho : o.op = .binOp op t x y u) (hx : cod x = some cx) (hy : cod y = some cy) (rf : RF E w nt f a) (rh : RelH s.obj E w)
    (h : opBin op cx cy call f s = .ok r s') : s' = s ∧ Out P (execOp a.eval o) n n' s.obj E w r s.obj := by
  have h1 := cod_rv hx rf
  have h2 := cod_rv hy rf
  unfold opBin at h
  generalize hp : a.eval x = p at h1
  generalize hq : a.eval y = q at h2
  cases hv : ev1 f cx with
  | int j m =>
    rw [hv] at h h1
    obtain ⟨k, i, hv2, h⟩ := onInt_ok (show (ev1 f cy).onInt .no (fun k b => intBin op j m k b s) = .ok r s' from h)
    rw [hv2] at h2
    obtain rfl := rv_int h1
    obtain rfl := rv_int h2
    obtain ⟨rfl, v, h3, h4⟩ := intBin_ok (P := P) (E := E) t h w
    exact ⟨rfl, .same (v := v) (by simp [execOp, ho, hp, hq, run_eqGuard_int, h3]) rh h4⟩
  | str l =>
    rw [hv] at h h1
    obtain ⟨m, hv2, h⟩ := onStr_ok (show (ev1 f cy).onStr .no (fun b => strBin op l b s) = .ok r s' from h)
    rw [hv2] at h2
    obtain ⟨p', rfl, hp'⟩ := rv_str h1
    obtain ⟨q', rfl, hq'⟩ := rv_str h2
    obtain ⟨rfl, v, h3, h4⟩ := strBin_ok (P := P) (E := E) t hp' hq' h w
    exact ⟨rfl, .same (v := v) (by simp [execOp, ho, hp, hq, run_eqGuard_str, h3]) rh h4⟩
  | _ => rw [hv] at h; exact R.noConfusion h
theorem run_equalIn_bool (d : Nat) {t : TypeId} (ht : P.underlying t = some .bool) (b c : Bool) (w : World) : (Op.equalIn (d + 1) t (.bool b) (.bool c)).run P w = .ok (b == c) w := by
  simp only [Op.equalIn, Sem.run_bind, run_underlying ht, Result.andThen_ok, Sem.run_pure]
theorem run_equal_bool {t : TypeId} (ht : P.underlying t = some .bool) (b c : Bool) (w : World) : (Op.equal t (.bool b) (.bool c)).run P w = .ok (b == c) w := run_equalIn_bool 9999 ht b c w
theorem run_eqGuard_bool (op : BinOp) (t : TypeId) (x y : Operand) (a b : Bool) (w : World) : (eqGuard op t x y (.bool a) (.bool b)).run P w = .ok () w := by
  unfold eqGuard; split <;> rfl
theorem s_beq {op : BinOp} {neg : Bool} {t u : TypeId} (hop : (op = .eql ∧ neg = false) ∨ (op = .neq ∧ neg = true)) (ht : P.underlying t = some .bool) (ho : o.op = .binOp op t x y u) (hx : cod x = some cx) (hy : cod y = some cy) (rf : RF E w nt f a) (rh : RelH s.obj E w)
    (h : opBeq neg cx cy call f s = .ok r s') : s' = s ∧ Out P (execOp a.eval o) n n' s.obj E w r s.obj := by
  have h1 := cod_rv hx rf
  have h2 := cod_rv hy rf
  obtain ⟨b, hb, h⟩ := onBool_ok h
  obtain ⟨c, hc, h⟩ := onBool_ok h
  obtain ⟨rfl, rfl⟩ := ok_inj h
  rw [hb] at h1; rw [hc] at h2
  have e1 := rv_bool h1
  have e2 := rv_bool h2
  rcases hop with ⟨rfl, rfl⟩ | ⟨rfl, rfl⟩
  · refine ⟨rfl, .same (v := .bool (b == c)) ?_ rh (by cases b <;> cases c <;> exact .bool _)⟩
    simp [execOp, ho, e1, e2, run_eqGuard_bool, binOp, run_equal_bool ht]
  · refine ⟨rfl, .same (v := .bool (!(b == c))) ?_ rh (by cases b <;> cases c <;> exact .bool _)⟩
    simp [execOp, ho, e1, e2, run_eqGuard_bool, binOp, run_equal_bool ht]
theorem s_neg {t : TypeId} (ho : o.op = .unOp .neg t x) (hx : cod x = some cx) (rf : RF E w nt f a) (rh : RelH s.obj E w) (h : opNeg cx call f s = .ok r s') : s' = s ∧ Out P (execOp a.eval o) n n' s.obj E w r s.obj := by
  have h1 := cod_rv hx rf
  obtain ⟨k, m, hv, h⟩ := onInt_ok h
  obtain ⟨rfl, rfl⟩ := ok_inj h
  rw [hv] at h1
  have e := rv_int h1
  rw [wr_eq, ineg_eq]
  refine ⟨rfl, .same (v := .int k (k.wrap (-m))) ?_ rh (.int _ _)⟩
  simp [execOp, ho, e, Op.unary, Op.intArith]
theorem s_not {t : TypeId} (ho : o.op = .unOp .not t x) (hx : cod x = some cx) (rf : RF E w nt f a) (rh : RelH s.obj E w) (h : opNot cx call f s = .ok r s') : s' = s ∧ Out P (execOp a.eval o) n n' s.obj E w r s.obj := by
  have h1 := cod_rv hx rf
  obtain ⟨b, hv, h⟩ := onBool_ok h
  obtain ⟨rfl, rfl⟩ := ok_inj h
  rw [hv] at h1
  have e := rv_bool h1
  refine ⟨rfl, .same (v := .bool (!b)) ?_ rh (by cases b <;> exact .bool _)⟩
  simp [execOp, ho, e, Op.unary]
theorem s_conv {k : IntKind} {t u : TypeId} {j : IntKind} (ht : P.underlying t = some (.int j)) (hu : P.underlying u = some (.int k)) (ho : o.op = .convert t u x) (hx : cod x = some cx) (rf : RF E w nt f a) (rh : RelH s.obj E w)
    (h : opConv k cx call f s = .ok r s') : s' = s ∧ Out P (execOp a.eval o) n n' s.obj E w r s.obj := by
  have h1 := cod_rv hx rf
  obtain ⟨i, m, hv, h⟩ := onInt_ok h
  obtain ⟨rfl, rfl⟩ := ok_inj h
  rw [hv] at h1
  have e := rv_int h1
  rw [wr_eq]
  refine ⟨rfl, .same (v := .int k (k.wrap m)) ?_ rh (.int _ _)⟩
  simp [execOp, ho, e, convert, run_underlying ht, run_underlying hu, Conv.intToInt]
theorem s_convs {t u : TypeId} (ht : P.underlying t = some .string) (hu : P.underlying u = some .string) (ho : o.op = .convert t u x) (hx : cod x = some cx) (rf : RF E w nt f a) (rh : RelH s.obj E w)
    (hv : ∃ l, ev1 f cx = .str l) (h : opMv cx call f s = .ok r s') : s' = s ∧ Out P (execOp a.eval o) n n' s.obj E w r s.obj := by
  have h1 := cod_rv hx rf
  obtain ⟨rfl, rfl⟩ := ok_inj h
  obtain ⟨l, hv⟩ := hv
  refine ⟨rfl, .same (v := a.eval x) ?_ rh h1⟩
  rw [hv] at h1
  obtain ⟨p, e, _⟩ := rv_str h1
  simp [execOp, ho, e, convert, run_underlying ht, run_underlying hu]

theorem s_ext {i : Nat} (ho : o.op = .extract x i) (hx : cod x = some cx) (rf : RF E w nt f a) (rh : RelH s.obj E w) (h : opExt cx i call f s = .ok r s') : s' = s ∧ Out P (execOp a.eval o) n n' s.obj E w r s.obj := by
  have h1 := cod_rv hx rf
  obtain ⟨l, hv, h⟩ := onTup_ok h
  rw [nth_eq] at h
  rw [hv] at h1
  obtain ⟨us, e, hr⟩ := rv_tup h1
  cases hi : l[i]? with
  | none => rw [hi] at h; exact R.noConfusion h
  | some v =>
    rw [hi] at h
    obtain ⟨rfl, rfl⟩ := ok_inj h
    obtain ⟨u, hu, h2⟩ := hr.get hi
    refine ⟨rfl, .same (v := u) ?_ rh h2⟩
    simp [execOp, ho, e, Instr.extract, hu]
theorem s_mkif {t : TypeId} {d : TypeDesc} (ht : P.underlying t = some d) (hd : ∀ ms, d ≠ .interface ms) (ho : o.op = .makeInterface t x) (hx : cod x = some cx) (rf : RF E w nt f a) (rh : RelH s.obj E w)
    (h : opMkif t cx call f s = .ok r s') : s' = s ∧ Out P (execOp a.eval o) n n' s.obj E w r s.obj := by
  obtain ⟨rfl, rfl⟩ := ok_inj h
  refine ⟨rfl, .same (v := .iface t (a.eval x)) ?_ rh (.ifc _ _ _ (cod_rv hx rf))⟩
  simp only [execOp, ho, Instr.makeInterface]
  cases d <;> first | exact absurd rfl (hd _) | simp [run_underlying ht]
theorem s_mkfn {g : Nat} {as bs : Array Operand} {cs ds : List CO} (hg : g < 65536) (ho : o.op = .makeFunc (.func g) as bs) (hx : as.toList.mapM cod = some cs) (hy : bs.toList.mapM cod = some ds) (rf : RF E w nt f a) (rh : RelH s.obj E w)
    (h : opMkfn (.ofNat g) cs ds call f s = .ok r s') : s' = s ∧ Out P (execOp a.eval o) n n' s.obj E w r s.obj := by
  obtain ⟨rfl, rfl⟩ := ok_inj h
  have h1 := cods_rl hx rf
  have h2 := cods_rl hy rf
  refine ⟨rfl, .same (v := .func (.func g) (as.map a.eval) (bs.map a.eval)) ?_ rh ?_⟩
  · simp [execOp, ho, Instr.makeFunc]
  · have := RV.fn (E := E) (w := w) (.ofNat g) (evs f cs) (evs f ds) _ _ h1.len h1.each h2.len h2.each
    rw [Id.val_ofNat hg] at this
    have e1 : (as.toList.map a.eval).toArray = as.map a.eval := by apply Array.ext'; simp
    have e2 : (bs.toList.map a.eval).toArray = bs.map a.eval := by apply Array.ext'; simp
    rwa [e1, e2] at this
theorem fieldPlace_run {fd : Field} {sz : Nat} (hs : sizeAt P fd.type = some sz) (h0 : sz ≠ 0) (g off : Nat) (w : World) : (fieldPlace ⟨g, off, none⟩ fd).run P w = .ok ⟨g, off + fd.offset, none⟩ w := by
  simp [fieldPlace, run_sizeOf hs, h0, addr_add]
theorem tp_drop {cs : List AV} {us : List Value} {g off : Nat} (k : Nat) (hI : cs ≠ [] → E.I g) (hrow : RL E w cs us) (hc : ∀ (j : Nat) (u : Value), us[j]? = some u → w.cell? ⟨g, off + j, none⟩ = some u) (h1 : ∀ c ∈ cs, c.one = true) :
    RV E w (.tp (cs.drop k)) (.pointer (some ⟨g, off + k, none⟩)) :=
  .tp _ g (off + k) (us.drop k) (fun hn => hI (fun e => hn (by rw [e]; simp))) (hrow.drop k).len (fun j u hj => by rw [List.getElem?_drop] at hj; rw [Nat.add_assoc]; exact hc _ u hj) (hrow.drop k).each (fun c hc => h1 c (List.mem_of_mem_drop hc))
theorem s_faddr {t : TypeId} {fs : Array Field} {i : Nat} {fd : Field} {sz : Nat} (ht : P.underlying t = some (.struct fs)) (hi : fs[i]? = some fd) (hs : sizeAt P fd.type = some sz) (h0 : sz ≠ 0) (ho : o.op = .fieldAddr t x i) (hx : cod x = some cx) (rf : RF E w nt f a) (rh : RelH s.obj E w)
    (h : opFaddr fd.offset cx call f s = .ok r s') : s' = s ∧ Out P (execOp a.eval o) n n' s.obj E w r s.obj := by
  have h1 := cod_rv hx rf
  rcases onPtr_ok h with ⟨b, off, hv, h⟩ | ⟨cs, hv, h⟩ <;> rw [hv] at h1 <;> obtain ⟨rfl, rfl⟩ := ok_inj h <;> generalize hu : a.eval x = u at h1
  · cases h1 with | ptr _ _ hD =>
    refine ⟨rfl, .same (v := .pointer (some ⟨(E.φ b).block, (E.φ b).off + (off + fd.offset), none⟩)) ?_ rh (.ptr _ _ hD)⟩
    simp [execOp, ho, hu, Instr.fieldAt, run_underlying ht, hi, Instr.sureAddr, fieldPlace_run hs h0, Nat.add_assoc]
  · cases h1 with | tp _ g off us hI hl hc hr ho1 =>
    rw [dr_eq]
    refine ⟨rfl, .same ?_ rh (tp_drop fd.offset hI ⟨hl, hr⟩ hc ho1)⟩
    simp [execOp, ho, hu, Instr.fieldAt, run_underlying ht, hi, Instr.sureAddr, fieldPlace_run hs h0]
theorem run_part {t : TypeId} {agg : Bool} {sz : Nat} (ha : aggAt P t = some agg) (hs : sizeAt P t = some sz) {cs : List AV} {us : List Value} {off : Nat}
    (hrow : RL E w cs us) (h1 : ∀ c ∈ cs, c.one = true) (h : wrap1 agg sz (cs.drop off) s = .ok r s') : s = s' ∧ ∃ v, (part t us.toArray off).run P w = .ok v w ∧ RV E w r v := by
  cases agg with
  | false =>
    cases hd : cs.drop off with
    | nil => rw [hd] at h; exact R.noConfusion h
    | cons c ds =>
      rw [hd] at h
      obtain ⟨rfl, rfl⟩ := ok_inj h
      have hc : cs[off]? = some c := by
        have : (cs.drop off)[0]? = some c := by rw [hd]; rfl
        rwa [List.getElem?_drop, Nat.add_zero] at this
      obtain ⟨u, hu, h2⟩ := hrow.get hc
      exact ⟨rfl, u, by simp [part, run_isAgg ha, hu], h2⟩
  | true =>
    obtain ⟨h2, h3⟩ := br_ok h
    obtain ⟨rfl, rfl⟩ := ok_inj h3
    refine ⟨rfl, .agg (us.toArray.extract off (off + sz)), by simp [part, run_isAgg ha, run_sizeOf hs], ?_⟩
    rw [tk_eq]
    have e : us.toArray.extract off (off + sz) = ((us.drop off).take sz).toArray := by
      apply Array.ext'
      rw [Array.toList_extract]; simp [List.extract]
    rw [e]
    exact .agg _ _ ((hrow.drop off).take sz).len ((hrow.drop off).take sz).each (fun c hc => h1 c (List.mem_of_mem_drop (List.mem_of_mem_take hc)))
theorem s_field {t : TypeId} {fs : Array Field} {i : Nat} {fd : Field} {agg : Bool} {sz : Nat} (ht : P.underlying t = some (.struct fs)) (hi : fs[i]? = some fd) (ha : aggAt P fd.type = some agg) (hs : sizeAt P fd.type = some sz) (ho : o.op = .field t x i) (hx : cod x = some cx) (rf : RF E w nt f a) (rh : RelH s.obj E w)
    (h : opField agg fd.offset sz cx call f s = .ok r s') : s' = s ∧ Out P (execOp a.eval o) n n' s.obj E w r s.obj := by
  have h1 := cod_rv hx rf
  obtain ⟨l, hv, h⟩ := onAgg_ok h
  rw [hv] at h1
  obtain ⟨us, e, hr, h1'⟩ := rv_agg h1
  rw [dr_eq] at h
  obtain ⟨rfl, v, h2, h3⟩ := run_part ha hs hr h1' h
  refine ⟨rfl, .same (v := v) ?_ rh h3⟩
  simp [execOp, ho, e, Instr.field, run_underlying ht, hi, asAgg, h2]
theorem s_iaddr {t e : TypeId} {sz : Nat} (ht : P.underlying t = some (.slice e)) (hs : sizeAt P e = some sz) (ho : o.op = .indexAddr t x y) (hx : cod x = some cx) (hy : cod y = some cy) (rf : RF E w nt f a) (rh : RelH s.obj E w)
    (h : opIaddr sz cx cy call f s = .ok r s') : s' = s ∧ Out P (execOp a.eval o) n n' s.obj E w r s.obj := by
  have h1 := cod_rv hx rf
  have h2 := cod_rv hy rf
  rcases onSl_ok h with ⟨_, h⟩ | ⟨b, off, l, c, ex, hv, h⟩ | ⟨cs, l, c, ex, hv, h⟩ | ⟨h, _⟩
  · exact R.noConfusion h
  · obtain ⟨j, m, hv2, hm, h⟩ := idx_ok h
    obtain ⟨rfl, rfl⟩ := ok_inj h
    rw [hv] at h1; rw [hv2] at h2
    have e2 := rv_int h2
    generalize hu : a.eval x = u at h1
    cases h1 with | sl _ _ _ _ cap' _ hD hlc hc hx =>
    refine ⟨rfl, .same (v := .pointer (some ⟨(E.φ b).block, (E.φ b).off + (off + m * sz), none⟩)) ?_ rh (.ptr _ _ hD)⟩
    have hm' : (m : Int) < (l : Int) := by omega
    simp [execOp, ho, hu, e2, Instr.indexAt, asIntOf, run_underlying ht, hm, run_sizeOf hs, addr_add, Nat.add_assoc]
  · obtain ⟨j, m, hv2, hm, h⟩ := idx_ok h
    obtain ⟨rfl, rfl⟩ := ok_inj h
    rw [hv] at h1; rw [hv2] at h2
    have e2 := rv_int h2
    generalize hu : a.eval x = u at h1
    cases h1 with | ts _ _ _ cap' _ g off us hI hl hc hr ho1 hlen hcap hx hsp =>
    rcases hsp with rfl | ⟨hsp, _⟩
    rotate_left
    · omega
    refine ⟨rfl, .same ?_ rh (by rw [dr_eq]; exact tp_drop (m * sz) hI ⟨hl, hr⟩ hc ho1)⟩
    simp [execOp, ho, hu, e2, Instr.indexAt, asIntOf, run_underlying ht, hm, run_sizeOf hs, addr_add]
  · exact R.noConfusion h
theorem s_paddr {t e : TypeId} {m0 sz : Nat} (ht : P.underlying t = some (.array m0 e)) (hs : sizeAt P e = some sz) (ho : o.op = .indexAddr t x y) (hx : cod x = some cx) (hy : cod y = some cy) (rf : RF E w nt f a) (rh : RelH s.obj E w)
    (h : opPaddr m0 sz cx cy call f s = .ok r s') : s' = s ∧ Out P (execOp a.eval o) n n' s.obj E w r s.obj := by
  have h1 := cod_rv hx rf
  have h2 := cod_rv hy rf
  have key : ∀ v : AV, ev1 f cx = v → (∃ b o', v = .ptr b o') ∨ opPaddr m0 sz cx cy call f s = .no ∨ True := fun v _ => .inr (.inr trivial)
  generalize hv : ev1 f cx = v at h1
  unfold opPaddr at h
  rw [hv] at h
  cases v <;> first | (exact R.noConfusion h) | skip
  rename_i b off
  obtain ⟨j, m, hv2, hm, h⟩ := idx_ok h
  obtain ⟨rfl, rfl⟩ := ok_inj h
  rw [hv2] at h2
  have e2 := rv_int h2
  generalize hu : a.eval x = u at h1
  cases h1 with | ptr _ _ hD =>
  refine ⟨rfl, .same (v := .pointer (some ⟨(E.φ b).block, (E.φ b).off + (off + m * sz), none⟩)) ?_ rh (.ptr _ _ hD)⟩
  have hm' : (m : Int) < (m0 : Int) := by omega
  simp [execOp, ho, hu, e2, Instr.indexAt, Instr.sureAddr, asIntOf, run_underlying ht, hm, run_sizeOf hs, addr_add, Nat.add_assoc]
end
end Go.Vm
namespace Go.Vm
set_option linter.unusedVariables false
variable {P : Program}
section
variable {E : Env} {w : World} {nt : Nat} {f : Fr AV} {a : Act} {s s' : St} {r : AV} {call : CallT} {n n' : Nat} {o : Oper} {x y z : Operand} {cx cy cz : CO}

def BV (x : Option Value) (y d m : Nat) : Prop := (x = none ∧ m = d) ∨ ∃ j : IntKind, x = some (.int j (m : Int)) ∧ m ≤ y
theorem codo_bv {x : Option Operand} {c : Option CO} (h : codo x = some c) (rf : RF E w nt f a) {y d : Nat} {k : Nat → R} (hk : bnd (evo f c) y d k = .ok r s') : ∃ m, k m = .ok r s' ∧ (BV (x.map a.eval) y d m) := by
  cases x with
  | none =>
    cases h
    rcases bnd_ok hk with ⟨_, h⟩ | ⟨j, m, h, _⟩
    · exact ⟨d, h, .inl ⟨rfl, rfl⟩⟩
    · cases h
  | some x =>
    simp only [codo, Option.map_eq_some_iff] at h
    obtain ⟨c, hc, rfl⟩ := h
    rcases bnd_ok hk with ⟨h, _⟩ | ⟨j, m, h, hm, h2⟩
    · cases h
    · have h1 := cod_rv hc rf
      have e : ev1 f c = .int j (m : Int) := by simpa [evo] using h
      rw [e] at h1
      exact ⟨m, h2, .inr ⟨j, by rw [Option.map_some, rv_int h1], hm⟩⟩
theorem run_bound {j : IntKind} {m y : Nat} (h : m ≤ y) (c : BoundsCode) (w : World) : (Instr.sliceBound (.int j (m : Int)) y c).run P w = .ok m w := by
  have : (m : Int) ≤ (y : Int) := by omega
  simp [Instr.sliceBound, asIntOf, h]
theorem run_bounds {b : Bool} {len cap m h l : Nat} {lo hi mx : Option Value} (h1 : BV mx cap cap m) (h2 : BV hi m len h) (h3 : BV lo h 0 l) (h4 : mx.isSome = true → hi.isSome = true) (w : World) :
    (Instr.sliceBounds b len cap lo hi mx).run P w = .ok (l, h, m) w := by
  rcases h1 with ⟨rfl, rfl⟩ | ⟨j1, rfl, h1⟩ <;> rcases h2 with ⟨rfl, rfl⟩ | ⟨j2, rfl, h2⟩ <;> rcases h3 with ⟨rfl, rfl⟩ | ⟨j3, rfl, h3⟩ <;> first
    | (simp at h4; done)
    | (simp [Instr.sliceBounds, run_bound, *]; done)
theorem s_slice {t e : TypeId} {sz : Nat} {lo hi mx : Option Operand} {clo chi cmx : Option CO} (ht : P.underlying t = some (.slice e)) (hs : sizeAt P e = some sz) (hm : mx.isSome = true → hi.isSome = true)
    (ho : o.op = .slice t x lo hi mx) (hx : cod x = some cx) (hlo : codo lo = some clo) (hhi : codo hi = some chi) (hmx : codo mx = some cmx) (rf : RF E w nt f a) (rh : RelH s.obj E w)
    (h : opSlice sz cx clo chi cmx call f s = .ok r s') : s' = s ∧ Out P (execOp a.eval o) n n' s.obj E w r s.obj := by
  have h1 := cod_rv hx rf
  have hmi : (mx.map a.eval).isSome = true → (hi.map a.eval).isSome = true := by simpa using hm
  have hcm : cmx.isSome = mx.isSome := by
    cases mx with
    | none => cases hmx; rfl
    | some _ => simp only [codo, Option.map_eq_some_iff] at hmx; obtain ⟨_, _, rfl⟩ := hmx; rfl
  have run : ∀ (g : Option Addr) (len cap m h' l : Nat), a.eval x = .slice g len cap → BV (mx.map a.eval) cap cap m → BV (hi.map a.eval) m len h' → BV (lo.map a.eval) h' 0 l →
      (execOp a.eval o).run P w = .ok (.value (.slice (if m = l then g else g.map (·.add (l * sz))) (h' - l) (m - l))) w := fun g len cap m h' l hx h1 h2 h3 => by
    simp [execOp, ho, hx, Instr.sliceAt, Instr.slice, run_underlying ht, run_bounds h1 h2 h3 hmi, run_sizeOf hs]
  rcases onSl_ok h with ⟨hv, h⟩ | ⟨b, off, len, cap, ex, hv, h⟩ | ⟨cs, len, cap, ex, hv, h⟩ | ⟨h, _⟩
  · rw [hv] at h1
    generalize hu : a.eval x = u at h1
    cases h1
    obtain ⟨m, h, b1⟩ := codo_bv hmx rf h
    obtain ⟨h', h, b2⟩ := codo_bv hhi rf h
    obtain ⟨l, h, b3⟩ := codo_bv hlo rf h
    obtain ⟨rfl, rfl⟩ := ok_inj h
    have hm0 : m = 0 := by rcases b1 with ⟨_, rfl⟩ | ⟨_, _, h⟩ <;> omega
    subst hm0
    have hh0 : h' = 0 := by rcases b2 with ⟨_, rfl⟩ | ⟨_, _, h⟩ <;> omega
    subst hh0
    have hl0 : l = 0 := by rcases b3 with ⟨_, rfl⟩ | ⟨_, _, h⟩ <;> omega
    subst hl0
    exact ⟨rfl, .same (run none 0 0 0 0 0 hu b1 b2 b3) rh (by simpa using RV.nils)⟩
  · rw [hv] at h1
    generalize hu : a.eval x = u at h1
    cases h1 with | sl _ _ _ _ cap' _ hD hlc hc hxx hss =>
    obtain ⟨m, h, b1⟩ := codo_bv hmx rf h
    obtain ⟨h', h, b2⟩ := codo_bv hhi rf h
    obtain ⟨l, h, b3⟩ := codo_bv hlo rf h
    have hlh : l ≤ h' := by rcases b3 with ⟨_, rfl⟩ | ⟨_, _, h⟩ <;> omega
    have hhm : h' ≤ m := by
      rcases b2 with ⟨e, rfl⟩ | ⟨_, _, hle⟩
      · rcases b1 with ⟨_, rfl⟩ | ⟨j, e2, _⟩
        · exact hlc
        · exfalso
          have := hmi (by rw [e2]; rfl)
          rw [e] at this; cases this
      · exact hle
    have hmc : m ≤ cap := by rcases b1 with ⟨_, rfl⟩ | ⟨_, _, hle⟩ <;> omega
    obtain ⟨m', b1', hmm, hex, hmc'⟩ : ∃ m', BV (mx.map a.eval) cap' cap' m' ∧ m ≤ m' ∧ ((ex = 0 ∨ mx.isSome = true) → m' = m) ∧ m' ≤ cap' := by
      rcases b1 with ⟨e, rfl⟩ | ⟨j, e, hle⟩
      · refine ⟨cap', .inl ⟨e, rfl⟩, hc, fun h => ?_, Nat.le_refl _⟩
        rcases h with h | h
        · exact hxx h
        · cases mx with
          | none => cases h
          | some _ => cases e
      · exact ⟨m, .inr ⟨j, e, by omega⟩, Nat.le_refl _, fun _ => rfl, by omega⟩
    have b2' : BV (hi.map a.eval) m' len h' := by
      rcases b2 with e | ⟨j, e, hle⟩
      · exact .inl e
      · exact .inr ⟨j, e, by omega⟩
    have hrun := run _ len cap' m' h' l hu b1' b2' b3
    have hx0 : ∀ q : Bool, Nat.beq ex 0 = q → (q = true → ex = 0) := fun q h h1 => Nat.eq_of_beq_eq_true (h.trans h1)
    cases hb : br (Nat.beq ex 0) true (br cmx.isSome true (Nat.ble (Nat.succ l) cap)) with
    | true =>
      rw [hb] at h
      obtain ⟨hz, h⟩ := br_ok h
      obtain ⟨rfl, rfl⟩ := ok_inj h
      refine ⟨rfl, .same hrun rh ?_⟩
      have key : (m' = l ↔ m = l) := by
        cases hex1 : Nat.beq ex 0 with
        | true => rw [hex (.inl (hx0 _ hex1 rfl))]
        | false =>
          rw [hex1] at hb
          cases hms : cmx.isSome with
          | true => rw [hex (.inr (by rw [← hcm]; exact hms))]
          | false =>
            rw [hms] at hb
            have hlt : l < cap := Nat.le_of_ble_eq_true hb
            have hmcap : m = cap := by
              rcases b1 with ⟨_, e⟩ | ⟨j, e, _⟩
              · exact e
              · exfalso
                rw [hcm] at hms
                cases mx with
                | none => cases e
                | some _ => cases hms
            constructor <;> intro <;> omega
      have hoff : (if m' = l then (some (⟨(E.φ b).block, (E.φ b).off + off, none⟩ : Addr)) else (some (⟨(E.φ b).block, (E.φ b).off + off, none⟩ : Addr)).map (·.add (l * sz))) = some ⟨(E.φ b).block, (E.φ b).off + br (Nat.beq m l) off (Nat.add off (Nat.mul l sz)), none⟩ := by
        by_cases e : m = l
        · rw [if_pos (key.mpr e)]
          have : Nat.beq m l = true := by rw [e]; exact Nat.beq_refl l
          rw [this]; rfl
        · rw [if_neg (fun h => e (key.mp h))]
          have : Nat.beq m l = false := by
            cases hq : Nat.beq m l with
            | false => rfl
            | true => exact absurd (Nat.eq_of_beq_eq_true hq) e
          rw [this, Option.map_some, addr_add, Nat.add_assoc]; rfl
      rw [hoff]
      refine .sl b _ _ _ _ _ hD (by show h' - l ≤ m - l; omega) (by show m - l ≤ m' - l; omega) (fun h => ?_) (fun h => ?_)
      · show m' - l = m - l
        rw [hex ?_]
        cases hms : cmx.isSome with
        | true => exact .inr (by rw [← hcm]; exact hms)
        | false => rw [hms] at h; exact .inl h
      · cases hms : cmx.isSome with
        | true => rw [hms] at h; exact absurd rfl h
        | false =>
          rw [hms] at h hz
          have hne : ex ≠ 0 := h
          obtain ⟨c, e, fr, k1, k2⟩ := hss hne
          refine ⟨c, e, fr, k1, ?_⟩
          have hbz : Nat.beq ex 0 = false := by
            cases hq : Nat.beq ex 0 with
            | false => rfl
            | true => exact absurd (Nat.eq_of_beq_eq_true hq) hne
          rw [hbz] at hz
          have hsz : ex = sz := Nat.eq_of_beq_eq_true hz
          show (E.φ b).off + br (Nat.beq m l) off (Nat.add off (Nat.mul l sz)) + (m' - l) * ex ≤ c.size
          have k3 : (m' - l) * ex + l * ex ≤ cap' * ex := by
            rw [← Nat.add_mul]; exact Nat.mul_le_mul_right _ (by omega)
          rw [← hsz]
          cases Nat.beq m l with
          | true => show (E.φ b).off + off + _ ≤ _; omega
          | false => show (E.φ b).off + (off + l * ex) + _ ≤ _; omega
    | false =>
      rw [hb] at h
      obtain ⟨rfl, rfl⟩ := ok_inj h
      refine ⟨rfl, .same hrun rh ?_⟩
      have hex1 : Nat.beq ex 0 = false := by cases hq : Nat.beq ex 0 <;> first | rfl | (rw [hq] at hb; cases hb)
      have hms : cmx.isSome = false := by cases hq : cmx.isSome <;> first | rfl | (rw [hex1, hq] at hb; cases hb)
      rw [hms, hex1] at hb
      have hge : ¬ l < cap := fun hlt => by
        have : Nat.ble (Nat.succ l) cap = true := Nat.ble_eq_true_of_le hlt
        rw [br_false, br_false, this] at hb; cases hb
      have hmcap : m = cap := by
        rcases b1 with ⟨_, e⟩ | ⟨j, e, _⟩
        · exact e
        · exfalso
          rw [hcm] at hms
          cases mx with
          | none => cases e
          | some _ => cases hms
      have hh : h' - l = 0 := by omega
      rw [hh]
      have hoff : ∃ g o', (if m' = l then (some (⟨(E.φ b).block, (E.φ b).off + off, none⟩ : Addr)) else (some (⟨(E.φ b).block, (E.φ b).off + off, none⟩ : Addr)).map (·.add (l * sz))) = some ⟨g, o', none⟩ := by
        split
        · exact ⟨_, _, rfl⟩
        · rw [Option.map_some, addr_add]; exact ⟨_, _, rfl⟩
      obtain ⟨g, o', e⟩ := hoff
      rw [e]
      exact .ts [] 0 0 _ false g o' [] (fun h => absurd rfl h) rfl (fun j u h => by simp at h) (fun j c u h => by simp at h) (fun c h => by simp at h) (Nat.zero_le _) (Nat.zero_le _) (fun h => by cases h)
  · rw [hv] at h1
    generalize hu : a.eval x = u at h1
    cases h1 with | ts _ _ _ cap' _ g off us hI hl hcc hr ho1 hlen hcap hxx hsp =>
    obtain ⟨m, h, b1⟩ := codo_bv hmx rf h
    obtain ⟨h', h, b2⟩ := codo_bv hhi rf h
    obtain ⟨l, h, b3⟩ := codo_bv hlo rf h
    obtain ⟨rfl, rfl⟩ := ok_inj h
    have hlh : l ≤ h' := by rcases b3 with ⟨_, rfl⟩ | ⟨_, _, h⟩ <;> omega
    obtain ⟨m', b1', hmm, hex⟩ : ∃ m', BV (mx.map a.eval) cap' cap' m' ∧ m ≤ m' ∧ ((ex = true ∨ mx.isSome = true) → m' = m) := by
      rcases b1 with ⟨e, rfl⟩ | ⟨j, e, hle⟩
      · refine ⟨cap', .inl ⟨e, rfl⟩, hcap, fun h => ?_⟩
        rcases h with h | h
        · exact hxx h
        · cases mx with
          | none => cases h
          | some _ => cases e
      · exact ⟨m, .inr ⟨j, e, by omega⟩, Nat.le_refl _, fun _ => rfl⟩
    have b2' : BV (hi.map a.eval) m' len h' := by
      rcases b2 with e | ⟨j, e, hle⟩
      · exact .inl e
      · exact .inr ⟨j, e, by have : Nat.min m len ≤ m := Nat.min_le_left m len; omega⟩
    have hh : h' ≤ m' := by
      rcases b2 with ⟨e, rfl⟩ | ⟨_, _, hle⟩
      · rcases b1' with ⟨_, rfl⟩ | ⟨j, e2, _⟩
        · exact hlen
        · exfalso
          have := hmi (by rw [e2]; rfl)
          rw [e] at this; cases this
      · have : Nat.min m len ≤ m := Nat.min_le_left m len; omega
    have hrun := run _ len cap' m' h' l hu b1' b2' b3
    refine ⟨rfl, .same hrun rh ?_⟩
    rw [dr_eq, tk_eq]
    have hrow : RL E w ((cs.take (h' * sz)).drop (l * sz)) ((us.take (h' * sz)).drop (l * sz)) := (RL.take ⟨hl, hr⟩ _).drop _
    have hone : ∀ c ∈ (cs.take (h' * sz)).drop (l * sz), c.one = true := fun c hc => ho1 c (List.mem_of_mem_take (List.mem_of_mem_drop hc))
    by_cases e : m' = l
    · rw [if_pos e]
      have eh : h' = l := by omega
      subst eh
      have hemp : (cs.take (h' * sz)).drop (h' * sz) = [] := by apply List.drop_eq_nil_of_le; rw [List.length_take]; exact Nat.min_le_left _ _
      have hempu : (us.take (h' * sz)).drop (h' * sz) = [] := by apply List.drop_eq_nil_of_le; rw [List.length_take]; exact Nat.min_le_left _ _
      show RV E w (.ts ((cs.take (h' * sz)).drop (h' * sz)) (h' - h') (m - h') (br ex true cmx.isSome)) _
      rw [hemp]
      refine .ts [] _ _ _ _ g off [] (fun h => absurd rfl h) rfl (fun j u h => by simp at h) (fun j c u h => by simp at h) (fun c h => by simp at h) (by omega) (by omega) (fun h => ?_) (hsp.imp id fun q => ⟨by omega, by omega, rfl⟩)
      rw [hex ?_]
      cases hex1 : ex with
      | true => exact .inl rfl
      | false => rw [hex1] at h; exact .inr (by rw [← hcm]; exact h)
    · rcases hsp with rfl | ⟨_, hsp, _⟩
      rotate_left
      · exfalso; apply e; rcases b1' with ⟨_, rfl⟩ | ⟨_, _, q⟩ <;> omega
      rw [if_neg e, Option.map_some, addr_add]
      refine .ts _ _ _ _ _ g (off + l * sz) ((us.take (h' * sz)).drop (l * sz)) (fun hn => hI (fun e => hn (by rw [e]; simp))) hrow.len (fun j u hj => ?_) hrow.each hone (by show h' - l ≤ m' - l; omega) (by show m - l ≤ m' - l; omega) (fun h => ?_)
      · rw [List.getElem?_drop, List.getElem?_take] at hj
        split at hj
        · rw [Nat.add_assoc]; exact hcc _ u hj
        · cases hj
      · show m' - l = m - l
        rw [hex ?_]
        cases hex1 : ex with
        | true => exact .inl rfl
        | false => rw [hex1] at h; exact .inr (by rw [← hcm]; exact h)
  · exact R.noConfusion h
end
end Go.Vm
namespace Go.Vm
set_option linter.unusedVariables false
variable {P : Program}
section
variable {E : Env} {w : World} {nt : Nat} {f : Fr AV} {a : Act} {s s' : St} {r : AV} {call : CallT} {n n' : Nat} {o : Oper} {x y z : Operand} {cx cy cz : CO}
theorem size_data (p : ByteArray) : p.size = p.data.toList.length := Array.length_toList.symm
theorem s_mvs {t u : TypeId} (ht : P.underlying t = some .string) (hu : P.underlying u = some .string) (ho : o.op = .convert t u x) (hx : cod x = some cx) (rf : RF E w nt f a) (rh : RelH s.obj E w)
    (h : opMvs cx call f s = .ok r s') : s' = s ∧ Out P (execOp a.eval o) n n' s.obj E w r s.obj := by
  obtain ⟨l, hv, h⟩ := onStr_ok h
  exact s_convs (call := call) ht hu ho hx rf rh ⟨l, hv⟩ (by unfold opMv; rw [hv]; exact h)
theorem s_sslice {t : TypeId} {lo hi : Option Operand} {clo chi : Option CO} (ht : P.underlying t = some .string)
    (ho : o.op = .slice t x lo hi none) (hx : cod x = some cx) (hlo : codo lo = some clo) (hhi : codo hi = some chi) (rf : RF E w nt f a) (rh : RelH s.obj E w)
    (h : opSslice cx clo chi call f s = .ok r s') : s' = s ∧ Out P (execOp a.eval o) n n' s.obj E w r s.obj := by
  have h1 := cod_rv hx rf
  obtain ⟨L, hL, h⟩ := onStr_ok h
  rw [hL] at h1
  obtain ⟨p, hp, hpl⟩ := rv_str h1
  have hsz : ln L = p.size := by rw [ln_eq, size_data, hpl]
  obtain ⟨h', h, b2⟩ := codo_bv hhi rf h
  obtain ⟨l, h, b3⟩ := codo_bv hlo rf h
  obtain ⟨rfl, rfl⟩ := ok_inj h
  rw [hsz] at b2
  refine ⟨rfl, .same (v := .string (p.extract l h')) ?_ rh ?_⟩
  · have b1 : BV (none : Option Value) p.size p.size p.size := .inl ⟨rfl, rfl⟩
    simp [execOp, ho, hp, Instr.sliceAt, Instr.slice, run_underlying ht, run_bounds b1 b2 b3 (by simp)]
  · refine .str _ _ ?_
    rw [dr_eq, tk_eq, ByteArray.data_extract, Array.toList_extract, ← hpl]
    simp [List.extract, List.drop_take]
theorem s_sidx {t : TypeId} (ht : P.underlying t = some .string) (ho : o.op = .index t x y) (hx : cod x = some cx) (hy : cod y = some cy) (rf : RF E w nt f a) (rh : RelH s.obj E w)
    (h : opSidx cx cy call f s = .ok r s') : s' = s ∧ Out P (execOp a.eval o) n n' s.obj E w r s.obj := by
  have h1 := cod_rv hx rf
  have h2 := cod_rv hy rf
  obtain ⟨l, hv, h⟩ := onStr_ok h
  obtain ⟨j, m, hv2, hm, h⟩ := idx_ok h
  rw [hv] at h1; rw [hv2] at h2
  obtain ⟨p, e1, hp⟩ := rv_str h1
  have e2 := rv_int h2
  rw [nth_eq] at h
  cases hc : l[m]? with
  | none => rw [hc] at h; exact R.noConfusion h
  | some c =>
    rw [hc] at h
    obtain ⟨rfl, rfl⟩ := ok_inj h
    refine ⟨rfl, .same (v := .int .u8 (c.toNat : Int)) ?_ rh (.int _ _)⟩
    have hc' : p[m]? = some c := by
      have hlt : m < p.size := by rw [size_data, hp]; exact (List.getElem?_eq_some_iff.mp hc).1
      have : p[m] = c := by
        have h3 := (List.getElem?_eq_some_iff.mp hc).2
        subst hp
        rw [← h3]; rfl
      rw [getElem?_pos p m hlt, this]
    simp [execOp, ho, e1, e2, Instr.index, asIntOf, run_underlying ht, hc']
theorem s_aidx {t e : TypeId} {agg : Bool} {len sz : Nat} (ht : P.underlying t = some (.array len e)) (ha : aggAt P e = some agg) (hs : sizeAt P e = some sz) (ho : o.op = .index t x y) (hx : cod x = some cx) (hy : cod y = some cy) (rf : RF E w nt f a) (rh : RelH s.obj E w)
    (h : opAidx agg len sz cx cy call f s = .ok r s') : s' = s ∧ Out P (execOp a.eval o) n n' s.obj E w r s.obj := by
  have h1 := cod_rv hx rf
  have h2 := cod_rv hy rf
  obtain ⟨l, hv, h⟩ := onAgg_ok h
  obtain ⟨j, m, hv2, hm, h⟩ := idx_ok h
  rw [hv] at h1; rw [hv2] at h2
  obtain ⟨us, e1, hr, h1'⟩ := rv_agg h1
  have e2 := rv_int h2
  rw [dr_eq] at h
  obtain ⟨rfl, v, h3, h4⟩ := run_part ha hs hr h1' h
  refine ⟨rfl, .same (v := v) ?_ rh h4⟩
  have hm' : (m : Int) < (len : Int) := by omega
  simp only [Nat.mul_eq] at h3
  simp [execOp, ho, e1, e2, Instr.index, asIntOf, run_underlying ht, hm, run_sizeOf hs, h3]

def isNilV : Value → Bool
  | .pointer none | .slice none _ _ | .map none | .nilFunc | .nilIface => true
  | _ => false
def formOk : NK → TypeDesc → Value → Prop
  | .sl, .slice _, .slice .. => True
  | .ptr, .pointer _, .pointer _ => True
  | .map, .map _ _, .map _ => True
  | .fn, .func _ _ _, .nilFunc | .fn, .func _ _ _, .func .. => True
  | .ifc, .interface _, .nilIface | .ifc, .interface _, .iface .. => True
  | _, _, _ => False
def kindOk : NK → TypeDesc → Prop
  | .sl, .slice _ | .ptr, .pointer _ | .map, .map _ _ | .fn, .func _ _ _ | .ifc, .interface _ => True
  | _, _ => False
theorem isA_form {k : NK} {d : TypeDesc} (hk : kindOk k d) {c : AV} {v : Value} (h : RV E w c v) (hf : c.isA k = true) : formOk k d v ∧ isNilV v = c.isNil := by
  cases k <;> cases d <;> first | exact hk.elim | skip
  all_goals cases h <;> first | exact ⟨trivial, rfl⟩ | cases hf
theorem run_equalIn_one (d : Nat) {k : NK} {t : TypeId} {dd : TypeDesc} (ht : P.underlying t = some dd) {p q : Value} (h1 : formOk k dd p) (h2 : formOk k dd q) (hn : isNilV p = true ∨ isNilV q = true) (w : World) :
    (Op.equalIn (d + 1) t p q).run P w = .ok (isNilV p && isNilV q) w := by
  simp only [Op.equalIn, Sem.run_bind, run_underlying ht, Result.andThen_ok]
  cases k <;> cases dd <;> first | exact h1.elim | skip
  case sl.slice =>
    cases p <;> first | exact h1.elim | skip
    cases q <;> first | exact h2.elim | skip
    rename_i a _ _ b _ _
    cases a <;> cases b <;> first | rfl | (rcases hn with h | h <;> cases h)
  case ptr.pointer =>
    cases p <;> first | exact h1.elim | skip
    cases q <;> first | exact h2.elim | skip
    rename_i a b
    cases a <;> cases b <;> first | rfl | (rcases hn with h | h <;> cases h)
  case map.map =>
    cases p <;> first | exact h1.elim | skip
    cases q <;> first | exact h2.elim | skip
    rename_i a b
    cases a <;> cases b <;> first | rfl | (rcases hn with h | h <;> cases h)
  case fn.func =>
    cases p <;> first | exact h1.elim | skip
    all_goals cases q <;> first | exact h2.elim | skip
    all_goals first | rfl | (rcases hn with h | h <;> cases h)
  case ifc.interface =>
    cases p <;> first | exact h1.elim | skip
    all_goals cases q <;> first | exact h2.elim | skip
    all_goals first | rfl | (rcases hn with h | h <;> cases h)
theorem run_equal_one {k : NK} {t : TypeId} {dd : TypeDesc} (ht : P.underlying t = some dd) {p q : Value} (h1 : formOk k dd p) (h2 : formOk k dd q) (hn : isNilV p = true ∨ isNilV q = true) (w : World) :
    (Op.equal t p q).run P w = .ok (isNilV p && isNilV q) w := run_equalIn_one 9999 ht h1 h2 hn w
theorem run_eqGuard_form (op : BinOp) (t : TypeId) (x y : Operand) {k : NK} {dd : TypeDesc} {p q : Value} (h1 : formOk k dd p) (h2 : formOk k dd q) (hc : (isConst x || isConst y) = true) (w : World) : (eqGuard op t x y p q).run P w = .ok () w := by
  cases op <;> first | rfl | skip
  all_goals
    cases k <;> cases dd <;> first | exact h1.elim | skip
    all_goals cases p <;> first | exact h1.elim | skip
    all_goals cases q <;> first | exact h2.elim | skip
    all_goals first | rfl | (cases x <;> cases y <;> first | (cases hc; done) | simp [eqGuard])
theorem binOp_form {op : BinOp} {neg : Bool} {k : NK} {t : TypeId} {dd : TypeDesc} (hop : (op = .eql ∧ neg = false) ∨ (op = .neq ∧ neg = true)) (ht : P.underlying t = some dd) {p q : Value} (h1 : formOk k dd p) (h2 : formOk k dd q) (hn : isNilV p = true ∨ isNilV q = true) (w : World) :
    (binOp op t p q).run P w = .ok (.bool (neg != (isNilV p && isNilV q))) w := by
  have e := run_equal_one ht h1 h2 hn w
  rcases hop with ⟨rfl, rfl⟩ | ⟨rfl, rfl⟩
  all_goals
    cases k <;> cases dd <;> first | exact h1.elim | skip
    all_goals cases p <;> first | exact h1.elim | skip
    all_goals cases q <;> first | exact h2.elim | skip
    all_goals simp [binOp, e]
theorem s_nileq {op : BinOp} {neg : Bool} {k : NK} {t u : TypeId} {dd : TypeDesc} (hop : (op = .eql ∧ neg = false) ∨ (op = .neq ∧ neg = true)) (ht : P.underlying t = some dd) (hk : kindOk k dd) (hc : (isConst x || isConst y) = true) (ho : o.op = .binOp op t x y u) (hx : cod x = some cx) (hy : cod y = some cy) (rf : RF E w nt f a) (rh : RelH s.obj E w)
    (h : opNeq neg k cx cy call f s = .ok r s') : s' = s ∧ Out P (execOp a.eval o) n n' s.obj E w r s.obj := by
  have h : nilNeq neg k (ev1 f cx) (ev1 f cy) s = .ok r s' := by cases k <;> first | exact h | (cases dd <;> exact hk.elim)
  have h1 := cod_rv hx rf
  have h2 := cod_rv hy rf
  obtain ⟨f1, h⟩ := br_ok h
  obtain ⟨f2, h⟩ := br_ok h
  obtain ⟨g1, e1⟩ := isA_form hk h1 f1
  obtain ⟨g2, e2⟩ := isA_form hk h2 f2
  have key : (isNilV (a.eval x) = true ∨ isNilV (a.eval y) = true) ∧ s' = s ∧ r = .bool (neg != (isNilV (a.eval x) && isNilV (a.eval y))) := by
    cases hp : (ev1 f cx).isNil with
    | true =>
      rw [hp, br_true] at h
      obtain ⟨rfl, rfl⟩ := ok_inj h
      refine ⟨.inl (by rw [e1, hp]), rfl, ?_⟩
      rw [e1, hp, e2]
      cases neg <;> cases (ev1 f cy).isNil <;> rfl
    | false =>
      rw [hp, br_false] at h
      obtain ⟨hq, h⟩ := br_ok h
      obtain ⟨rfl, rfl⟩ := ok_inj h
      refine ⟨.inr (by rw [e2, hq]), rfl, ?_⟩
      rw [e1, hp, e2, hq]
      cases neg <;> rfl
  obtain ⟨hn, rfl, rfl⟩ := key
  refine ⟨rfl, .same (v := .bool (neg != (isNilV (a.eval x) && isNilV (a.eval y)))) ?_ rh (.bool _)⟩
  simp [execOp, ho, run_eqGuard_form op t x y g1 g2 hc, binOp_form hop ht g1 g2 hn]

theorem cellEq_ok {c : FK} {p q : AV} {u v : Value} {k : Bool → R} (h : cellEq c p q k = .ok r s') (hp : RV E w p u) (hq : RV E w q v) {T : TypeId} (hT : (match P.underlying T with | some (.int _) => some FK.num | some .string => some FK.str | some .bool => some FK.bool | _ => none) = some c) :
    ∃ t, k t = .ok r s' ∧ ∀ d w', (Op.equalIn (d + 1) T u v).run P w' = .ok t w' := by
  cases hu : P.underlying T with
  | none => rw [hu] at hT; cases hT
  | some D =>
    rw [hu] at hT
    cases D <;> first | (cases hT; done) | skip
    case bool =>
      cases hT
      obtain ⟨a, rfl, h⟩ := onBool_ok h
      obtain ⟨b, rfl, h⟩ := onBool_ok h
      rw [rv_bool hp, rv_bool hq]
      refine ⟨_, h, fun d w' => ?_⟩
      rw [run_equalIn_bool d hu]
      cases a <;> cases b <;> rfl
    case int k' =>
      cases hT
      obtain ⟨j, a, rfl, h⟩ := onInt_ok h
      obtain ⟨i, b, rfl, h⟩ := onInt_ok h
      obtain ⟨h1, h⟩ := br_ok h
      rw [(keq_iff j i).mp h1] at hp
      rw [rv_int hp, rv_int hq]
      refine ⟨_, h, fun d w' => ?_⟩
      rw [ieq_eq]
      simp [Op.equalIn, run_underlying hu]
    case string =>
      cases hT
      obtain ⟨a, rfl, h⟩ := onStr_ok h
      obtain ⟨b, rfl, h⟩ := onStr_ok h
      obtain ⟨x, rfl, hx⟩ := rv_str hp
      obtain ⟨y, rfl, hy⟩ := rv_str hq
      refine ⟨_, h, fun d w' => ?_⟩
      have e : (x == y) = beqs a b := by
        rw [beqs_eq, ← hx, ← hy]
        obtain ⟨⟨x⟩⟩ := x
        obtain ⟨⟨y⟩⟩ := y
        show ((⟨x⟩ : Array UInt8) == ⟨y⟩) = (x == y)
        simp
      simp [Op.equalIn, run_underlying hu, e]
theorem cellsEq_ok {us vs : List Value} (d : Nat) : ∀ (fs : List Field) (m : Nat) (c : List FK), flatFs P fs m = some c → ∀ {l l' : List AV} {k : Bool → R}, cellsEq c l l' k = .ok r s' → RL E w l (us.drop m) → RL E w l' (vs.drop m) →
    ∃ t, k t = .ok r s' ∧ ∀ w', (Op.eqFields (d + 1) us.toArray vs.toArray fs).run P w' = .ok t w'
  | [], m, c, hc, l, l', k, h, _, _ => by
    cases hc
    exact ⟨true, h, fun w' => by simp [Op.eqFields]⟩
  | f :: fs, m, c, hc, l, l', k, h, h1, h2 => by
    unfold flatFs at hc
    split at hc <;> first | (cases hc; done) | skip
    rename_i hn
    simp only [Bool.and_eq_true, bne_iff_ne, ne_eq, beq_iff_eq] at hn
    simp only [Option.bind_eq_bind, Option.bind_eq_some_iff, Option.some.injEq] at hc
    obtain ⟨c1, hc1, c2, hc2, rfl⟩ := hc
    cases l with
    | nil => exact R.noConfusion h
    | cons p l =>
      cases l' with
      | nil => exact R.noConfusion h
      | cons q l' =>
        obtain ⟨u, us', hu, k1, h1'⟩ := h1.cons_inv
        obtain ⟨v, vs', hv, k2, h2'⟩ := h2.cons_inv
        obtain ⟨t, h3, h4⟩ := cellEq_ok (k := fun t => cellsEq c2 l l' fun u => k (br t u false)) h k1 k2 hc1
        have eu : us.drop (m + 1) = us' := by rw [← List.drop_drop, hu]; rfl
        have ev : vs.drop (m + 1) = vs' := by rw [← List.drop_drop, hv]; rfl
        obtain ⟨t', h5, h6⟩ := cellsEq_ok d fs (m + 1) c2 hc2 h3 (by rw [eu]; exact h1') (by rw [ev]; exact h2')
        refine ⟨br t t' false, h5, fun w' => ?_⟩
        have gu : us.toArray[f.offset]? = some u := by
          rw [hn.2, List.getElem?_toArray]
          have : (us.drop m)[0]? = some u := by rw [hu]; rfl
          rwa [List.getElem?_drop, Nat.add_zero] at this
        have gv : vs.toArray[f.offset]? = some v := by
          rw [hn.2, List.getElem?_toArray]
          have : (vs.drop m)[0]? = some v := by rw [hv]; rfl
          rwa [List.getElem?_drop, Nat.add_zero] at this
        have ag : aggAt P f.type = some false := by
          unfold aggAt
          cases hU : P.underlying f.type with
          | none => rw [hU] at hc1; cases hc1
          | some D => rw [hU] at hc1; cases D <;> first | rfl | (cases hc1; done)
        have pu : (part f.type us.toArray f.offset).run P w' = .ok u w' := by simp [part, run_isAgg ag, gu]
        have pv : (part f.type vs.toArray f.offset).run P w' = .ok v w' := by simp [part, run_isAgg ag, gv]
        simp only [Op.eqFields, hn.1, not_false_eq_true, ne_eq, if_true, Sem.run_bind, pu, pv, h4, Result.andThen_ok]
        cases t with
        | false => simp
        | true => simpa using h6 w'
theorem s_aggeq {op : BinOp} {neg : Bool} {t u : TypeId} {fs : Array Field} {c : List FK} (hop : (op = .eql ∧ neg = false) ∨ (op = .neq ∧ neg = true)) (ht : P.underlying t = some (.struct fs)) (hfl : flatFs P fs.toList 0 = some c) (hsi : P.stoodInHeld t = false) (hgd : P.eqGuardType P.depth t = false) (ho : o.op = .binOp op t x y u) (hx : cod x = some cx) (hy : cod y = some cy) (rf : RF E w nt f a) (rh : RelH s.obj E w)
    (h : opNeq neg (.agg c) cx cy call f s = .ok r s') : s' = s ∧ Out P (execOp a.eval o) n n' s.obj E w r s.obj := by
  have h : aggNeq neg c (ev1 f cx) (ev1 f cy) s = .ok r s' := h
  have h1 := cod_rv hx rf
  have h2 := cod_rv hy rf
  obtain ⟨l, hl, h⟩ := onAgg_ok h
  obtain ⟨m, hm, h⟩ := onAgg_ok h
  rw [hl] at h1
  rw [hm] at h2
  generalize hu : a.eval x = p at h1
  generalize hv : a.eval y = q at h2
  cases h1 with | agg _ us hl1 hr1 _ =>
  cases h2 with | agg _ vs hl2 hr2 _ =>
  obtain ⟨t', h3, h4⟩ := cellsEq_ok (P := P) (us := us) (vs := vs) 9998 fs.toList 0 c hfl h ⟨hl1, hr1⟩ ⟨hl2, hr2⟩
  obtain ⟨rfl, rfl⟩ := ok_inj h3
  have ht' : P.underlying t = some (.struct (P.fieldsOf t)) := by unfold Program.fieldsOf; rw [ht]
  have hf' : P.fieldsOf t = fs := by unfold Program.fieldsOf; rw [ht]
  have he := run_equalIn_struct w 9999 t us.toArray vs.toArray ht' hsi
  rw [hf', h4 w] at he
  refine ⟨rfl, .same (v := .bool (br neg (br t' false true) t')) ?_ rh (.bool _)⟩
  rcases hop with ⟨rfl, rfl⟩ | ⟨rfl, rfl⟩
  · simp [execOp, ho, hu, hv, run_eqGuard_agg w .eql t x y us.toArray vs.toArray hgd, run_eql_struct, he]
  · simp [execOp, ho, hu, hv, run_eqGuard_agg w .neq t x y us.toArray vs.toArray hgd, run_neq_struct, he]
    cases t' <;> rfl
theorem arr1 {α : Type} {xs : Array α} {x : α} (h : xs.toList = [x]) : xs = #[x] := by rw [← Array.toArray_toList (xs := xs), h]
theorem arr2 {α : Type} {xs : Array α} {x y : α} (h : xs.toList = [x, y]) : xs = #[x, y] := by rw [← Array.toArray_toList (xs := xs), h]
theorem s_lens {t : TypeId} {cl : Call} (ho : o.op = .call cl) (hb : cl.callee = .builtin .len) (ha : cl.args.toList = [x]) (hat : cl.argTypes.toList = [t]) (ht : P.underlying t = some .string) (hx : cod x = some cx) (rf : RF E w nt f a) (rh : RelH s.obj E w)
    (h : opLens cx call f s = .ok r s') : s' = s ∧ Out P (execOp a.eval o) n n' s.obj E w r s.obj := by
  have h1 := cod_rv hx rf
  obtain ⟨l, hv, h⟩ := onStr_ok h
  obtain ⟨rfl, rfl⟩ := ok_inj h
  rw [hv] at h1
  obtain ⟨p, e1, hp⟩ := rv_str h1
  refine ⟨rfl, .same (v := .int .i64 (p.size : Int)) ?_ rh ?_⟩
  · simp [execOp, ho, resolve, hb, arr1 ha, arr1 hat, invoke, builtin, Builtin.len_, run_underlying ht, e1, goInt]
  · have : ln l = p.size := by rw [ln_eq, size_data, hp]
    rw [this]; exact .int _ _
theorem s_len {t e : TypeId} {cl : Call} (ho : o.op = .call cl) (hb : cl.callee = .builtin .len) (ha : cl.args.toList = [x]) (hat : cl.argTypes.toList = [t]) (ht : P.underlying t = some (.slice e)) (hx : cod x = some cx) (rf : RF E w nt f a) (rh : RelH s.obj E w)
    (h : opLen cx call f s = .ok r s') : s' = s ∧ Out P (execOp a.eval o) n n' s.obj E w r s.obj := by
  have h1 := cod_rv hx rf
  have key : ∃ (g : Option Addr) (len cap : Nat), a.eval x = .slice g len cap ∧ s' = s ∧ r = .int .i64 (len : Int) := by
    rcases onSl_ok h with ⟨hv, h⟩ | ⟨b, off, len, cap, ex, hv, h⟩ | ⟨cs, len, cap, ex, hv, h⟩ | ⟨h, _⟩
    · obtain ⟨rfl, rfl⟩ := ok_inj h; rw [hv] at h1; generalize a.eval x = u at h1; cases h1; exact ⟨none, 0, 0, rfl, rfl, rfl⟩
    · obtain ⟨rfl, rfl⟩ := ok_inj h; rw [hv] at h1; generalize a.eval x = u at h1; cases h1; exact ⟨_, _, _, rfl, rfl, rfl⟩
    · obtain ⟨rfl, rfl⟩ := ok_inj h; rw [hv] at h1; generalize a.eval x = u at h1; cases h1; exact ⟨_, _, _, rfl, rfl, rfl⟩
    · exact R.noConfusion h
  obtain ⟨g, len, cap, e1, rfl, rfl⟩ := key
  refine ⟨rfl, .same (v := .int .i64 (len : Int)) ?_ rh (.int _ _)⟩
  simp [execOp, ho, resolve, hb, arr1 ha, arr1 hat, invoke, builtin, Builtin.len_, run_underlying ht, e1, goInt]
theorem s_cap {t e : TypeId} {cl : Call} (ho : o.op = .call cl) (hb : cl.callee = .builtin .cap) (ha : cl.args.toList = [x]) (hat : cl.argTypes.toList = [t]) (ht : P.underlying t = some (.slice e)) (hx : cod x = some cx) (rf : RF E w nt f a) (rh : RelH s.obj E w)
    (h : opCap cx call f s = .ok r s') : s' = s ∧ Out P (execOp a.eval o) n n' s.obj E w r s.obj := by
  have h1 := cod_rv hx rf
  have key : ∃ (g : Option Addr) (len cap : Nat), a.eval x = .slice g len cap ∧ s' = s ∧ r = .int .i64 (cap : Int) := by
    rcases onSl_ok h with ⟨hv, h⟩ | ⟨b, off, len, cap, ex, hv, h⟩ | ⟨cs, len, cap, ex, hv, h⟩ | ⟨h, _⟩
    · obtain ⟨rfl, rfl⟩ := ok_inj h; rw [hv] at h1; generalize a.eval x = u at h1; cases h1; exact ⟨none, 0, 0, rfl, rfl, rfl⟩
    · obtain ⟨hx, h⟩ := br_ok h; obtain ⟨rfl, rfl⟩ := ok_inj h; rw [hv] at h1; generalize a.eval x = u at h1
      cases h1 with | sl _ _ _ _ _ _ _ _ _ h _ => exact ⟨_, _, _, rfl, rfl, by rw [h (Nat.eq_of_beq_eq_true hx)]; rfl⟩
    · obtain ⟨hx, h⟩ := br_ok h; subst hx; obtain ⟨rfl, rfl⟩ := ok_inj h; rw [hv] at h1; generalize a.eval x = u at h1
      cases h1 with | ts _ _ _ _ _ _ _ _ _ _ _ _ _ _ _ h => exact ⟨_, _, _, rfl, rfl, by rw [h rfl]; rfl⟩
    · exact R.noConfusion h
  obtain ⟨g, len, cap, e1, rfl, rfl⟩ := key
  refine ⟨rfl, .same (v := .int .i64 (cap : Int)) ?_ rh (.int _ _)⟩
  simp [execOp, ho, resolve, hb, arr1 ha, arr1 hat, invoke, builtin, Builtin.cap_, run_underlying ht, e1, goInt]
theorem s_lenm {t k e : TypeId} {cl : Call} (ho : o.op = .call cl) (hb : cl.callee = .builtin .len) (ha : cl.args.toList = [x]) (hat : cl.argTypes.toList = [t]) (ht : P.underlying t = some (.map k e)) (hx : cod x = some cx) (rf : RF E w nt f a) (rh : RelH s.obj E w)
    (h : opLenm cx call f s = .ok r s') : s' = s ∧ Out P (execOp a.eval o) n n' s.obj E w r s.obj := by
  have h1 := cod_rv hx rf
  rcases onMap_ok h with ⟨hv, h⟩ | ⟨b, hv, h⟩ | h
  · obtain ⟨rfl, rfl⟩ := ok_inj h
    rw [hv] at h1
    generalize hu : a.eval x = u at h1
    cases h1
    refine ⟨rfl, .same (v := .int .i64 0) ?_ rh (.int _ _)⟩
    simp [execOp, ho, resolve, hb, arr1 ha, arr1 hat, invoke, builtin, Builtin.len_, run_underlying ht, hu, goInt]
  · rw [hv] at h1
    obtain ⟨es, he, h⟩ := onMapO_ok h
    obtain ⟨rfl, rfl⟩ := ok_inj h
    generalize hu : a.eval x = u at h1
    cases h1
    obtain ⟨ms, cl', H⟩ := rh.map b es he
    refine ⟨rfl, .same (v := .int .i64 (ms.size : Int)) ?_ rh ?_⟩
    · have hg : (getObj (E.φ b).block).run P w = .ok (.map ms cl') w := by simp [getObj, Sem.run, H.heap]
      simp [execOp, ho, resolve, hb, arr1 ha, arr1 hat, invoke, builtin, Builtin.len_, run_underlying ht, hu, goInt, hg]
    · have : ln es = ms.size := by have := H.keys.len; simp at this; rw [ln_eq, this]
      rw [this]; exact .int _ _
  · exact R.noConfusion h

theorem bytes_rl (E : Env) (w : World) (l : List UInt8) : RL E w (byteCells l) (l.map fun c => Value.int .u8 (c.toNat : Int)) ∧ ∀ c ∈ byteCells l, c.one = true := by
  induction l with
  | nil => exact ⟨RL.nil _ _, fun c hc => by simp [byteCells] at hc⟩
  | cons c r ih => exact ⟨RL.cons (.int _ _) ih.1, fun a ha => by rcases List.mem_cons.mp ha with rfl | ha <;> first | rfl | exact ih.2 a ha⟩
theorem cellBytes_ok {l : List AV} {k : List UInt8 → R} (h : cellBytes l k = .ok r s') : ∃ ns : List Int, l = ns.map (AV.int .u8) ∧ k (ns.map fun n => UInt8.ofNat n.toNat) = .ok r s' := by
  induction l generalizing k with
  | nil => exact ⟨[], rfl, h⟩
  | cons v l ih =>
    obtain ⟨j, m, rfl, h⟩ := onInt_ok (v := v) h
    obtain ⟨e, h⟩ := br_ok h
    obtain rfl := (keq_iff _ _).mp e
    obtain ⟨ns, el, hk⟩ := ih h
    exact ⟨m :: ns, by rw [el]; rfl, hk⟩
theorem ints_rl {ns : List Int} {us : List Value} (h : RL E w (ns.map (AV.int .u8)) us) : us = ns.map (Value.int .u8) := by
  induction ns generalizing us with
  | nil => exact List.eq_nil_of_length_eq_zero (by simpa using h.len)
  | cons m ns ih =>
    obtain ⟨u, vs, rfl, h1, h2⟩ := RL.cons_inv h
    rw [rv_int h1, ih h2]; rfl
theorem run_bytes_of {ns : List Int} {g off cap : Nat} {sp : Option Nat} (hsp : sp = none ∨ ns = []) (hc : ∀ (j : Nat) (u : Value), (ns.map (Value.int .u8))[j]? = some u → w.cell? ⟨g, off + j, none⟩ = some u) :
    (Conv.bytesToString (.slice (some ⟨g, off, sp⟩) ns.length cap)).run P w = .ok (.string ⟨(ns.map fun n => UInt8.ofNat n.toNat).toArray⟩) w := by
  have h := run_loadCells_list (P := P) (w := w) ⟨g, off, sp⟩ (ns.map (Value.int .u8)) (fun j v hj => by
    rcases hsp with rfl | rfl
    · rw [addr_add]; exact hc j v hj
    · simp at hj)
  rw [List.length_map] at h
  rw [run_bytesToString w _ ns.length cap ns h, foldl_push_bytes]
  simp [ByteArray.empty, ByteArray.emptyWithCapacity]
  rfl
theorem s_tostr {t u e : TypeId} (ht : P.underlying t = some (.slice e)) (he : P.underlying e = some (.int .u8)) (hu : P.underlying u = some .string) (ho : o.op = .convert t u x) (hx : cod x = some cx) (rf : RF E w nt f a) (rh : RelH s.obj E w)
    (h : opToStr cx call f s = .ok r s') : s' = s ∧ Out P (execOp a.eval o) n n' s.obj E w r s.obj := by
  have h1 := cod_rv hx rf
  rcases onSl_ok h with ⟨hv, h⟩ | ⟨b, off, len, cap, ex, hv, h⟩ | ⟨cs, len, cap, ex, hv, h⟩ | ⟨h, _⟩
  · obtain ⟨rfl, rfl⟩ := ok_inj h
    rw [hv] at h1; generalize hq : a.eval x = q at h1; cases h1
    refine ⟨rfl, .same (v := .string ⟨#[]⟩) ?_ rh (.str _ _ rfl)⟩
    simp [execOp, ho, hq, run_convert_bytes_string w t u e _ _ _ ht he hu, Conv.bytesToString]
    rfl
  · rw [hv] at h1
    obtain ⟨ds, hds, h⟩ := onCells_ok h
    obtain ⟨hle, h⟩ := br_ok h
    rw [tk_eq, dr_eq] at h
    obtain ⟨ns, hns, h⟩ := cellBytes_ok h
    obtain ⟨rfl, rfl⟩ := ok_inj h
    obtain ⟨c, ty, us, H⟩ := rh.cells b ds hds
    generalize hq : a.eval x = q at h1
    cases h1 with | sl _ _ _ _ cap' _ hD hlc hc hxx hss =>
    have hrow := (H.row.drop off).take len
    rw [hns] at hrow
    have hus := ints_rl hrow
    have hlen : ns.length = len := by
      have h0 := Nat.le_of_ble_eq_true hle
      rw [ln_eq] at h0
      have h0' : off + len ≤ ds.length := h0
      have := congrArg List.length hns
      rw [List.length_take, List.length_drop, List.length_map] at this
      omega
    refine ⟨rfl, .same (v := .string ⟨(ns.map fun n => UInt8.ofNat n.toNat).toArray⟩) ?_ rh (.str _ _ (by simp))⟩
    have hb := run_bytes_of (P := P) (w := w) (ns := ns) (g := (E.φ b).block) (off := (E.φ b).off + off) (cap := cap') (.inl rfl) (fun j v hj => by
      rw [← hus, List.getElem?_take] at hj
      split at hj
      · rw [List.getElem?_drop] at hj; rw [Nat.add_assoc]; exact holds_cell H _ v hj
      · cases hj)
    rw [hlen] at hb
    simp [execOp, ho, hq, run_convert_bytes_string w t u e _ _ _ ht he hu, hb]
  · rw [hv] at h1
    obtain ⟨hle, h⟩ := br_ok h
    obtain ⟨ns, hns, h⟩ := cellBytes_ok h
    obtain ⟨rfl, rfl⟩ := ok_inj h
    generalize hq : a.eval x = q at h1
    cases h1 with | ts _ _ _ cap' _ g off us hI hl hcc hr ho1 hlen hcap hxx hsp =>
    subst hns
    have hus := ints_rl ⟨hl, hr⟩
    have hlen : ns.length = len := by
      have h0 := Nat.eq_of_beq_eq_true hle
      rw [ln_eq, List.length_map] at h0
      exact h0.symm
    refine ⟨rfl, .same (v := .string ⟨(ns.map fun n => UInt8.ofNat n.toNat).toArray⟩) ?_ rh (.str _ _ (by simp))⟩
    have hb := run_bytes_of (P := P) (w := w) (ns := ns) (g := g) (off := off) (cap := cap') (hsp.imp id fun q => by simpa using q.2.2) (fun j v hj => by
      rw [← hus] at hj; exact hcc j v hj)
    rw [hlen] at hb
    simp [execOp, ho, hq, run_convert_bytes_string w t u e _ _ _ ht he hu, hb]
  · exact R.noConfusion h
end
end Go.Vm
namespace Go.Vm
set_option linter.unusedVariables false
variable {P : Program}
section
variable {E : Env} {w : World} {nt : Nat} {f : Fr AV} {a : Act} {s s' : St} {r : AV} {call : CallT} {n n' : Nat} {o : Oper} {x y z : Operand} {cx cy cz : CO}

theorem mm_fold {mx : Bool} {rs : List CO} {us : List Value} (hr : RL E w (evs f rs) us) {v : AV} {u : Value} (hv : RV E w v u)
    (h : List.rec (motive := fun _ => AV → R) (fun v => .ok v s) (fun y _ ih v => v.onInt .no fun j a => (ev1 f y).onInt .no fun k b => ih (.int j (best mx a b))) rs v = .ok r s') :
    s' = s ∧ ∃ q, (us.foldlM (if mx then Builtin.max2 else Builtin.min2) u).run P w = .ok q w ∧ RV E w r q := by
  induction rs generalizing us v u with
  | nil =>
    obtain ⟨rfl, rfl⟩ := ok_inj h
    have : us = [] := List.eq_nil_of_length_eq_zero (by simpa [evs] using hr.len)
    subst this
    exact ⟨rfl, u, by simp, hv⟩
  | cons y rs ih =>
    obtain ⟨u1, us, rfl, h1, h2⟩ := RL.cons_inv (show RL E w (ev1 f y :: evs f rs) us from hr)
    obtain ⟨j, m, hv', h'⟩ := onInt_ok (v := v) h
    subst hv'
    obtain ⟨k, i, hy, h''⟩ := onInt_ok (v := ev1 f y) h'
    rw [hy] at h1
    obtain rfl := rv_int hv
    obtain rfl := rv_int h1
    obtain ⟨rfl, q, h3, h4⟩ := ih h2 (.int j (best mx m i)) h''
    refine ⟨rfl, q, ?_, h4⟩
    rw [← h3]
    have e : ((if mx then Builtin.max2 else Builtin.min2) (.int j m) (.int k i)).run P w = .ok (.int j (best mx m i)) w := by
      cases mx with
      | true =>
        simp only [if_true]
        show (Builtin.max2 _ _).run P w = .ok (.int j (br (ilt m i) i m)) w
        rw [ilt_eq]
        by_cases hlt : m < i
        · simp [Builtin.max2, hlt]
        · simp [Builtin.max2, hlt]
      | false =>
        simp only [Bool.false_eq_true, if_false]
        show (Builtin.min2 _ _).run P w = .ok (.int j (br (ilt i m) i m)) w
        rw [ilt_eq]
        by_cases hlt : i < m
        · simp [Builtin.min2, hlt]
        · simp [Builtin.min2, hlt]
    simp only [List.foldlM_cons, Sem.run_bind, e, Result.andThen_ok]
theorem s_mm {mx : Bool} {cl : Call} {rs : List Operand} {crs : List CO} (ho : o.op = .call cl) (hb : cl.callee = .builtin (if mx then .max else .min)) (ha : cl.args.toList = x :: rs) (hx : cod x = some cx) (hr : rs.mapM cod = some crs) (rf : RF E w nt f a) (rh : RelH s.obj E w)
    (h : opMm mx cx crs call f s = .ok r s') : s' = s ∧ Out P (execOp a.eval o) n n' s.obj E w r s.obj := by
  obtain ⟨rfl, q, h1, h2⟩ := mm_fold (P := P) (cods_rl hr rf) (cod_rv hx rf) h
  refine ⟨rfl, .same (v := q) ?_ rh h2⟩
  have ea : (cl.args.map a.eval).toList = a.eval x :: rs.map a.eval := by simp [ha]
  cases mx with
  | true => simp only [if_true] at hb h1; simp [execOp, ho, resolve, hb, invoke, builtin, Builtin.max_, ha, h1]
  | false => simp at hb h1; simp [execOp, ho, resolve, hb, invoke, builtin, Builtin.min_, ha, h1]

theorem keyEq_ok {str : Bool} {d : TypeDesc} (hd : (str = true ∧ d = .string) ∨ (str = false ∧ ∃ k, d = .int k)) {c e : AV} {u v : Value} (h1 : RV E w c u) (h2 : RV E w e v) {q p : R} (hk : ∀ R0 : R, isKey str c R0 = R0)
    (h : keyEq c e .no q p = .ok r s') : (Instr.sameNow d u v = some true ∧ q = .ok r s') ∨ (Instr.sameNow d u v = some false ∧ p = .ok r s') := by
  rcases hd with ⟨rfl, rfl⟩ | ⟨rfl, k, rfl⟩
  · cases c <;> first | exact R.noConfusion (hk (.ok undef s')) | skip
    rename_i l
    obtain ⟨l', hl', hh⟩ := onStr_ok (v := e) (show e.onStr .no (fun m => br (beqs l m) q p) = .ok r s' from h)
    clear h
    subst hl'
    obtain ⟨x1, rfl, e1⟩ := rv_str h1
    obtain ⟨x2, rfl, e2⟩ := rv_str h2
    rw [beqs_eq] at hh
    have key : (x1 == x2) = (l == l') := by
      have h0 : (x1 == x2) = (x1.data == x2.data) := by cases x1; cases x2; rfl
      rw [h0, Bool.eq_iff_iff]
      simp only [beq_iff_eq]
      constructor
      · intro e; rw [← e1, ← e2, e]
      · intro e; exact Array.ext' (e1.trans (e.trans e2.symm))
    cases hb : (l == l') with
    | true => rw [hb] at hh; exact .inl ⟨by simp [Instr.sameNow, key, hb], hh⟩
    | false => rw [hb] at hh; exact .inr ⟨by simp [Instr.sameNow, key, hb], hh⟩
  · cases c <;> first | exact R.noConfusion (hk (.ok undef s')) | skip
    rename_i j m
    obtain ⟨i, m', hm', hh⟩ := onInt_ok (v := e) (show e.onInt .no (fun k b => br (keq j k) (br (ieq m b) q p) .no) = .ok r s' from h)
    clear h
    subst hm'
    obtain rfl := rv_int h1
    obtain rfl := rv_int h2
    obtain ⟨hj, hk2⟩ := br_ok hh
    clear hh
    have hj' := (keq_iff _ _).mp hj
    subst hj'
    rw [ieq_eq] at hk2
    cases hb : (m == m') with
    | true => rw [hb] at hk2; exact .inl ⟨by simp only [Instr.sameNow, if_true, hb], hk2⟩
    | false => rw [hb] at hk2; exact .inr ⟨by simp only [Instr.sameNow, if_true, hb], hk2⟩
theorem mget_ok {str : Bool} {d : TypeDesc} (hd : (str = true ∧ d = .string) ∨ (str = false ∧ ∃ k, d = .int k)) {c : AV} {u : Value} (h1 : RV E w c u) (hk : ∀ R0 : R, isKey str c R0 = R0) {es : List (AV × AV)} {ms : List MapEntry} {q : R} {yes : AV → R}
    (hks : RL E w (es.map (·.1)) (ms.map (·.key))) (hvs : RL E w (es.map (·.2)) (ms.map (·.val))) (i : Nat) (h : mget es c q yes = .ok r s') :
    (Instr.findNow d u ms i = some none ∧ q = .ok r s') ∨ ∃ (j : Nat) (e : MapEntry) (v : AV), Instr.findNow d u ms i = some (some (i + j, e.val)) ∧ ms[j]? = some e ∧ RV E w v e.val ∧ yes v = .ok r s' := by
  induction es generalizing ms i with
  | nil =>
    have : ms = [] := List.eq_nil_of_length_eq_zero (by simpa using hks.len)
    subst this
    exact .inl ⟨rfl, h⟩
  | cons e es ih =>
    obtain ⟨b, v⟩ := e
    cases ms with
    | nil => have := hks.len; simp at this
    | cons m ms =>
      obtain ⟨_, _, e1, g1, g2⟩ := RL.cons_inv (show RL E w (b :: es.map (·.1)) (m.key :: ms.map (·.key)) from hks)
      cases e1
      obtain ⟨_, _, e1, g3, g4⟩ := RL.cons_inv (show RL E w (v :: es.map (·.2)) (m.val :: ms.map (·.val)) from hvs)
      cases e1
      rcases keyEq_ok hd h1 g1 hk (show keyEq c b .no (yes v) (mget es c q yes) = .ok r s' from h) with ⟨k1, k2⟩ | ⟨k1, k2⟩
      · exact .inr ⟨0, m, v, by simp [Instr.findNow, k1], rfl, g3, k2⟩
      · rcases ih g2 g4 (i + 1) k2 with ⟨k3, k4⟩ | ⟨j, e, v', k3, k4, k5, k6⟩
        · exact .inl ⟨by simp only [Instr.findNow, k1]; exact k3, k4⟩
        · exact .inr ⟨j + 1, e, v', by simp only [Instr.findNow, k1]; rw [k3]; congr 3; omega, by simpa using k4, k5, k6⟩
theorem isKey_ok {str : Bool} {c : AV} {q : R} (h : isKey str c q = .ok r s') : (∀ R0 : R, isKey str c R0 = R0) ∧ q = .ok r s' := by
  cases str <;> cases c <;> first | exact R.noConfusion h | exact ⟨fun _ => rfl, h⟩
theorem run_checkKey_vm {str : Bool} {d : TypeDesc} {kt : TypeId} (ht : P.underlying kt = some d) (hd : (str = true ∧ d = .string) ∨ (str = false ∧ ∃ k, d = .int k)) (em : Bool) (m : Nat) (v : Value) : (Instr.checkKey em (m + 1) kt v).run P w = .ok () w := by
  unfold Instr.checkKey
  simp only [Sem.run_bind, run_underlying ht, Result.andThen]
  rcases hd with ⟨_, rfl⟩ | ⟨_, k, rfl⟩ <;> rfl
theorem run_lookup_of {t kt e : TypeId} {d : TypeDesc} {str : Bool} {i : TypeInfo} {zv : Value} (ht : P.underlying t = some (.map kt e)) (hkt : P.underlying kt = some d) (hd : (str = true ∧ d = .string) ∨ (str = false ∧ ∃ k, d = .int k))
    (hi : P.info? e = some i) (hz : i.zero = some zv) {mv : Value} {ms : List MapEntry} {u : Value} (ok : Bool)
    (hm : (mv = .map none ∧ ms = []) ∨ ∃ g clock, mv = .map (some g) ∧ w.heap[g]? = some (.map ms.toArray clock)) {a : Option (Nat × Value)} (hf : Instr.findNow d u ms 0 = some a) :
    (Instr.lookup t mv u ok).run P w = .ok (if ok then .tuple #[(a.map (·.2)).getD zv, .bool a.isSome] else (a.map (·.2)).getD zv) w := by
  rcases hm with ⟨rfl, rfl⟩ | ⟨g, clock, rfl, hg⟩
  · cases hf
    cases ok <;> simp [Instr.lookup, run_underlying ht, run_checkKey_vm hkt hd, Instr.findKey, run_underlying hkt, Instr.findNow, zeroValue, typeInfo, hi, hz]
  · have hgo : (getObj g).run P w = .ok (.map ms.toArray clock) w := by simp [getObj, Sem.run, hg]
    cases a with
    | none => cases ok <;> simp [Instr.lookup, run_underlying ht, hgo, run_checkKey_vm hkt hd, Instr.findKey, run_underlying hkt, hf, zeroValue, typeInfo, hi, hz]
    | some p => cases ok <;> simp [Instr.lookup, run_underlying ht, hgo, run_checkKey_vm hkt hd, Instr.findKey, run_underlying hkt, hf]
theorem looked_ok {ok b : Bool} {v : AV} {u : Value} (hv : RV E w v u) (h : looked ok b v s = .ok r s') : s' = s ∧ RV E w r (if ok then .tuple #[u, .bool b] else u) := by
  cases ok with
  | true =>
    obtain ⟨rfl, rfl⟩ := ok_inj h
    have := RL.cons hv (RL.cons (RV.bool (E := E) (w := w) b) (RL.nil _ _))
    exact ⟨rfl, .tup _ _ this.len this.each⟩
  | false => obtain ⟨rfl, rfl⟩ := ok_inj h; exact ⟨rfl, hv⟩
theorem s_lookup {t kt e : TypeId} {d : TypeDesc} {str ok : Bool} {i : TypeInfo} {zv : Value} {v : AV} (ht : P.underlying t = some (.map kt e)) (hkt : P.underlying kt = some d) (hd : (str = true ∧ d = .string) ∨ (str = false ∧ ∃ k, d = .int k))
    (hi : P.info? e = some i) (hz : i.zero = some zv) (hvz : valAt zv = some v) (ho : o.op = .lookup t x y ok) (hx : cod x = some cx) (hy : cod y = some cy) (rf : RF E w nt f a) (rh : RelH s.obj E w)
    (h : opLookup str v cx cy ok call f s = .ok r s') : s' = s ∧ Out P (execOp a.eval o) n n' s.obj E w r s.obj := by
  have h1 := cod_rv hx rf
  have h2 := cod_rv hy rf
  obtain ⟨hk, h⟩ := isKey_ok h
  rcases onMap_ok h with ⟨hv, h⟩ | ⟨b, hv, h⟩ | h
  · rw [hv] at h1
    generalize hu : a.eval x = u at h1
    cases h1
    obtain ⟨rfl, h3⟩ := looked_ok (valAt_rv hvz E w) h
    refine ⟨rfl, .same (v := _) ?_ rh h3⟩
    simp [execOp, ho, hu, run_lookup_of (w := w) (u := a.eval y) ht hkt hd hi hz ok (.inl ⟨rfl, rfl⟩) (a := none) rfl]
  · rw [hv] at h1
    obtain ⟨es, he, h⟩ := onMapO_ok h
    obtain ⟨ms, cl, H⟩ := rh.map b es he
    generalize hu : a.eval x = u at h1
    cases h1
    have hm : (Value.map (some (E.φ b).block) = .map none ∧ ms.toList = []) ∨ ∃ g clock, Value.map (some (E.φ b).block) = .map (some g) ∧ w.heap[g]? = some (.map ms.toList.toArray clock) := .inr ⟨_, cl, rfl, by simpa using H.heap⟩
    rcases mget_ok hd h2 hk H.keys H.vals 0 h with ⟨k1, k2⟩ | ⟨j, e', v', k1, k2, k3, k4⟩
    · obtain ⟨rfl, h3⟩ := looked_ok (valAt_rv hvz E w) k2
      refine ⟨rfl, .same (v := _) ?_ rh h3⟩
      simp [execOp, ho, hu, run_lookup_of ht hkt hd hi hz ok hm k1]
    · obtain ⟨rfl, h3⟩ := looked_ok k3 k4
      refine ⟨rfl, .same (v := _) ?_ rh h3⟩
      simp [execOp, ho, hu, run_lookup_of ht hkt hd hi hz ok hm k1]
  · exact R.noConfusion h
end
end Go.Vm
