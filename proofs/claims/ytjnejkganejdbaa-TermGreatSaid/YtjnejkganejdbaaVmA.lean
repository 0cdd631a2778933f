/- The abstract machine that the proofs of this claim run in: digits, records of sixteen, abstract values, states. No condition. -/
import Derived.Calls
namespace Go.Vm
set_option linter.unusedVariables false

/-- A digit. -/
inductive D16 where
  | d0 | d1 | d2 | d3 | d4 | d5 | d6 | d7 | d8 | d9 | d10 | d11 | d12 | d13 | d14 | d15
  deriving DecidableEq

/-- A record of sixteen. -/
inductive F16 (α : Type) where
  | mk (a0 a1 a2 a3 a4 a5 a6 a7 a8 a9 a10 a11 a12 a13 a14 a15 : α)

section
variable {α : Type}
noncomputable def g0 : F16 α → α := F16.rec (fun a0 a1 a2 a3 a4 a5 a6 a7 a8 a9 a10 a11 a12 a13 a14 a15 => a0)
noncomputable def g1 : F16 α → α := F16.rec (fun a0 a1 a2 a3 a4 a5 a6 a7 a8 a9 a10 a11 a12 a13 a14 a15 => a1)
noncomputable def g2 : F16 α → α := F16.rec (fun a0 a1 a2 a3 a4 a5 a6 a7 a8 a9 a10 a11 a12 a13 a14 a15 => a2)
noncomputable def g3 : F16 α → α := F16.rec (fun a0 a1 a2 a3 a4 a5 a6 a7 a8 a9 a10 a11 a12 a13 a14 a15 => a3)
noncomputable def g4 : F16 α → α := F16.rec (fun a0 a1 a2 a3 a4 a5 a6 a7 a8 a9 a10 a11 a12 a13 a14 a15 => a4)
noncomputable def g5 : F16 α → α := F16.rec (fun a0 a1 a2 a3 a4 a5 a6 a7 a8 a9 a10 a11 a12 a13 a14 a15 => a5)
noncomputable def g6 : F16 α → α := F16.rec (fun a0 a1 a2 a3 a4 a5 a6 a7 a8 a9 a10 a11 a12 a13 a14 a15 => a6)
noncomputable def g7 : F16 α → α := F16.rec (fun a0 a1 a2 a3 a4 a5 a6 a7 a8 a9 a10 a11 a12 a13 a14 a15 => a7)
noncomputable def g8 : F16 α → α := F16.rec (fun a0 a1 a2 a3 a4 a5 a6 a7 a8 a9 a10 a11 a12 a13 a14 a15 => a8)
noncomputable def g9 : F16 α → α := F16.rec (fun a0 a1 a2 a3 a4 a5 a6 a7 a8 a9 a10 a11 a12 a13 a14 a15 => a9)
noncomputable def g10 : F16 α → α := F16.rec (fun a0 a1 a2 a3 a4 a5 a6 a7 a8 a9 a10 a11 a12 a13 a14 a15 => a10)
noncomputable def g11 : F16 α → α := F16.rec (fun a0 a1 a2 a3 a4 a5 a6 a7 a8 a9 a10 a11 a12 a13 a14 a15 => a11)
noncomputable def g12 : F16 α → α := F16.rec (fun a0 a1 a2 a3 a4 a5 a6 a7 a8 a9 a10 a11 a12 a13 a14 a15 => a12)
noncomputable def g13 : F16 α → α := F16.rec (fun a0 a1 a2 a3 a4 a5 a6 a7 a8 a9 a10 a11 a12 a13 a14 a15 => a13)
noncomputable def g14 : F16 α → α := F16.rec (fun a0 a1 a2 a3 a4 a5 a6 a7 a8 a9 a10 a11 a12 a13 a14 a15 => a14)
noncomputable def g15 : F16 α → α := F16.rec (fun a0 a1 a2 a3 a4 a5 a6 a7 a8 a9 a10 a11 a12 a13 a14 a15 => a15)
noncomputable def s0 (v : α) : F16 α → F16 α := F16.rec (fun a0 a1 a2 a3 a4 a5 a6 a7 a8 a9 a10 a11 a12 a13 a14 a15 => .mk v a1 a2 a3 a4 a5 a6 a7 a8 a9 a10 a11 a12 a13 a14 a15)
noncomputable def s1 (v : α) : F16 α → F16 α := F16.rec (fun a0 a1 a2 a3 a4 a5 a6 a7 a8 a9 a10 a11 a12 a13 a14 a15 => .mk a0 v a2 a3 a4 a5 a6 a7 a8 a9 a10 a11 a12 a13 a14 a15)
noncomputable def s2 (v : α) : F16 α → F16 α := F16.rec (fun a0 a1 a2 a3 a4 a5 a6 a7 a8 a9 a10 a11 a12 a13 a14 a15 => .mk a0 a1 v a3 a4 a5 a6 a7 a8 a9 a10 a11 a12 a13 a14 a15)
noncomputable def s3 (v : α) : F16 α → F16 α := F16.rec (fun a0 a1 a2 a3 a4 a5 a6 a7 a8 a9 a10 a11 a12 a13 a14 a15 => .mk a0 a1 a2 v a4 a5 a6 a7 a8 a9 a10 a11 a12 a13 a14 a15)
noncomputable def s4 (v : α) : F16 α → F16 α := F16.rec (fun a0 a1 a2 a3 a4 a5 a6 a7 a8 a9 a10 a11 a12 a13 a14 a15 => .mk a0 a1 a2 a3 v a5 a6 a7 a8 a9 a10 a11 a12 a13 a14 a15)
noncomputable def s5 (v : α) : F16 α → F16 α := F16.rec (fun a0 a1 a2 a3 a4 a5 a6 a7 a8 a9 a10 a11 a12 a13 a14 a15 => .mk a0 a1 a2 a3 a4 v a6 a7 a8 a9 a10 a11 a12 a13 a14 a15)
noncomputable def s6 (v : α) : F16 α → F16 α := F16.rec (fun a0 a1 a2 a3 a4 a5 a6 a7 a8 a9 a10 a11 a12 a13 a14 a15 => .mk a0 a1 a2 a3 a4 a5 v a7 a8 a9 a10 a11 a12 a13 a14 a15)
noncomputable def s7 (v : α) : F16 α → F16 α := F16.rec (fun a0 a1 a2 a3 a4 a5 a6 a7 a8 a9 a10 a11 a12 a13 a14 a15 => .mk a0 a1 a2 a3 a4 a5 a6 v a8 a9 a10 a11 a12 a13 a14 a15)
noncomputable def s8 (v : α) : F16 α → F16 α := F16.rec (fun a0 a1 a2 a3 a4 a5 a6 a7 a8 a9 a10 a11 a12 a13 a14 a15 => .mk a0 a1 a2 a3 a4 a5 a6 a7 v a9 a10 a11 a12 a13 a14 a15)
noncomputable def s9 (v : α) : F16 α → F16 α := F16.rec (fun a0 a1 a2 a3 a4 a5 a6 a7 a8 a9 a10 a11 a12 a13 a14 a15 => .mk a0 a1 a2 a3 a4 a5 a6 a7 a8 v a10 a11 a12 a13 a14 a15)
noncomputable def s10 (v : α) : F16 α → F16 α := F16.rec (fun a0 a1 a2 a3 a4 a5 a6 a7 a8 a9 a10 a11 a12 a13 a14 a15 => .mk a0 a1 a2 a3 a4 a5 a6 a7 a8 a9 v a11 a12 a13 a14 a15)
noncomputable def s11 (v : α) : F16 α → F16 α := F16.rec (fun a0 a1 a2 a3 a4 a5 a6 a7 a8 a9 a10 a11 a12 a13 a14 a15 => .mk a0 a1 a2 a3 a4 a5 a6 a7 a8 a9 a10 v a12 a13 a14 a15)
noncomputable def s12 (v : α) : F16 α → F16 α := F16.rec (fun a0 a1 a2 a3 a4 a5 a6 a7 a8 a9 a10 a11 a12 a13 a14 a15 => .mk a0 a1 a2 a3 a4 a5 a6 a7 a8 a9 a10 a11 v a13 a14 a15)
noncomputable def s13 (v : α) : F16 α → F16 α := F16.rec (fun a0 a1 a2 a3 a4 a5 a6 a7 a8 a9 a10 a11 a12 a13 a14 a15 => .mk a0 a1 a2 a3 a4 a5 a6 a7 a8 a9 a10 a11 a12 v a14 a15)
noncomputable def s14 (v : α) : F16 α → F16 α := F16.rec (fun a0 a1 a2 a3 a4 a5 a6 a7 a8 a9 a10 a11 a12 a13 a14 a15 => .mk a0 a1 a2 a3 a4 a5 a6 a7 a8 a9 a10 a11 a12 a13 v a15)
noncomputable def s15 (v : α) : F16 α → F16 α := F16.rec (fun a0 a1 a2 a3 a4 a5 a6 a7 a8 a9 a10 a11 a12 a13 a14 a15 => .mk a0 a1 a2 a3 a4 a5 a6 a7 a8 a9 a10 a11 a12 a13 a14 v)
noncomputable def D16.get : D16 → F16 α → α := D16.rec g0 g1 g2 g3 g4 g5 g6 g7 g8 g9 g10 g11 g12 g13 g14 g15
noncomputable def D16.set : D16 → α → F16 α → F16 α := D16.rec s0 s1 s2 s3 s4 s5 s6 s7 s8 s9 s10 s11 s12 s13 s14 s15
def F16.rep (v : α) : F16 α := .mk v v v v v v v v v v v v v v v v
theorem D16.get_set (d e : D16) (v : α) (f : F16 α) : d.get (e.set v f) = if d = e then v else d.get f := by
  cases f; cases d <;> cases e <;> rfl
theorem D16.get_rep (d : D16) (v : α) : d.get (F16.rep v) = v := by cases d <;> rfl
end

noncomputable def D16.val : D16 → Nat := D16.rec 0 1 2 3 4 5 6 7 8 9 10 11 12 13 14 15
noncomputable def D16.dig (n : Nat) : D16 := match n with | 0 => .d0 | 1 => .d1 | 2 => .d2 | 3 => .d3 | 4 => .d4 | 5 => .d5 | 6 => .d6 | 7 => .d7 | 8 => .d8 | 9 => .d9 | 10 => .d10 | 11 => .d11 | 12 => .d12 | 13 => .d13 | 14 => .d14 | _ => .d15
noncomputable def D16.up {β : Type} : D16 → β → (D16 → β) → β := D16.rec (fun _ k => k .d1) (fun _ k => k .d2) (fun _ k => k .d3) (fun _ k => k .d4) (fun _ k => k .d5) (fun _ k => k .d6) (fun _ k => k .d7) (fun _ k => k .d8) (fun _ k => k .d9) (fun _ k => k .d10) (fun _ k => k .d11) (fun _ k => k .d12) (fun _ k => k .d13) (fun _ k => k .d14) (fun _ k => k .d15) (fun c _ => c)
theorem D16.val_ofNat (n : Nat) (h : n < 16) : (D16.dig n).val = n := by
  obtain h | h | h | h | h | h | h | h | h | h | h | h | h | h | h | h : n = 0 ∨ n = 1 ∨ n = 2 ∨ n = 3 ∨ n = 4 ∨ n = 5 ∨ n = 6 ∨ n = 7 ∨ n = 8 ∨ n = 9 ∨ n = 10 ∨ n = 11 ∨ n = 12 ∨ n = 13 ∨ n = 14 ∨ n = 15 := by omega
  all_goals subst h; rfl
theorem D16.val_lt (d : D16) : d.val < 16 := by cases d <;> decide
theorem D16.val_inj {d e : D16} (h : d.val = e.val) : d = e := by
  have : ∀ d : D16, D16.dig d.val = d := fun d => by cases d <;> rfl
  rw [← this d, ← this e, h]

/-- A slot of a frame. -/
inductive Sl where
  | mk (i j : D16)
  deriving DecidableEq
noncomputable def Sl.val : Sl → Nat := Sl.rec fun i j => i.val * 16 + j.val
noncomputable def Sl.ofNat (n : Nat) : Sl := .mk (.dig (n / 16)) (.dig (n % 16))
theorem Sl.val_ofNat {n : Nat} (h : n < 256) : (Sl.ofNat n).val = n := by
  show (D16.dig (n / 16)).val * 16 + (D16.dig (n % 16)).val = n
  rw [D16.val_ofNat _ (by omega), D16.val_ofNat _ (by omega)]; omega
theorem Sl.val_inj {s t : Sl} (h : s.val = t.val) : s = t := by
  cases s with | mk i j => cases t with | mk k l =>
  have h' : i.val * 16 + j.val = k.val * 16 + l.val := h
  have h1 := j.val_lt; have h2 := l.val_lt
  have e1 : i.val = k.val := by omega
  have e2 : j.val = l.val := by omega
  rw [D16.val_inj e1, D16.val_inj e2]

/-- A block's name (and a function's). -/
inductive Id where
  | mk (a b c d : D16)
  deriving DecidableEq
noncomputable def Id.val : Id → Nat := Id.rec fun a b c d => ((a.val * 16 + b.val) * 16 + c.val) * 16 + d.val
noncomputable def Id.ofNat (n : Nat) : Id := .mk (.dig (n / 4096)) (.dig (n / 256 % 16)) (.dig (n / 16 % 16)) (.dig (n % 16))
theorem Id.val_ofNat {n : Nat} (h : n < 65536) : (Id.ofNat n).val = n := by
  show (((D16.dig (n / 4096)).val * 16 + (D16.dig (n / 256 % 16)).val) * 16 + (D16.dig (n / 16 % 16)).val) * 16 + (D16.dig (n % 16)).val = n
  rw [D16.val_ofNat _ (by omega), D16.val_ofNat _ (by omega), D16.val_ofNat _ (by omega), D16.val_ofNat _ (by omega)]; omega
theorem Id.val_inj {s t : Id} (h : s.val = t.val) : s = t := by
  cases s with | mk a b c d => cases t with | mk a' b' c' d' =>
  have h' : ((a.val * 16 + b.val) * 16 + c.val) * 16 + d.val = ((a'.val * 16 + b'.val) * 16 + c'.val) * 16 + d'.val := h
  have := a.val_lt; have := b.val_lt; have := c.val_lt; have := d.val_lt
  have := a'.val_lt; have := b'.val_lt; have := c'.val_lt; have := d'.val_lt
  rw [D16.val_inj (show a.val = a'.val by omega), D16.val_inj (show b.val = b'.val by omega), D16.val_inj (show c.val = c'.val by omega), D16.val_inj (show d.val = d'.val by omega)]
/-- The next name, if there is one. -/
noncomputable def Id.up {β : Type} (x : Id) (n : β) (k : Id → β) : β :=
  Id.rec (fun a b c d => d.up (c.up (b.up (a.up n fun a => k (.mk a .d0 .d0 .d0)) fun b => k (.mk a b .d0 .d0)) fun c => k (.mk a b c .d0)) fun d => k (.mk a b c d)) x
theorem D16.up_spec {β : Type} (d : D16) (c : β) (k : D16 → β) : (d.val = 15 ∧ d.up c k = c) ∨ (∃ e : D16, e.val = d.val + 1 ∧ d.up c k = k e) := by
  cases d <;> first | exact .inl ⟨rfl, rfl⟩ | exact .inr ⟨_, rfl, rfl⟩
theorem Id.up_spec {β : Type} (x : Id) (n : β) (k : Id → β) : x.up n k = n ∨ ∃ y : Id, y.val = x.val + 1 ∧ x.up n k = k y := by
  cases x with | mk a b c d =>
  have hv : (Id.mk a b c d).val = ((a.val * 16 + b.val) * 16 + c.val) * 16 + d.val := rfl
  have hu : (Id.mk a b c d).up n k = d.up (c.up (b.up (a.up n fun a => k (.mk a .d0 .d0 .d0)) fun b => k (.mk a b .d0 .d0)) fun c => k (.mk a b c .d0)) fun d => k (.mk a b c d) := rfl
  rw [hu, hv]
  rcases D16.up_spec d (c.up (b.up (a.up n fun a => k (.mk a .d0 .d0 .d0)) fun b => k (.mk a b .d0 .d0)) fun c => k (.mk a b c .d0)) (fun d => k (.mk a b c d)) with ⟨h, e⟩ | ⟨y, h, e⟩
  · rw [e]
    rcases D16.up_spec c (b.up (a.up n fun a => k (.mk a .d0 .d0 .d0)) fun b => k (.mk a b .d0 .d0)) (fun c => k (.mk a b c .d0)) with ⟨h2, e⟩ | ⟨y, h2, e⟩
    · rw [e]
      rcases D16.up_spec b (a.up n fun a => k (.mk a .d0 .d0 .d0)) (fun b => k (.mk a b .d0 .d0)) with ⟨h3, e⟩ | ⟨y, h3, e⟩
      · rw [e]
        rcases D16.up_spec a n (fun a => k (.mk a .d0 .d0 .d0)) with ⟨h4, e⟩ | ⟨y, h4, e⟩
        · exact .inl e
        · exact .inr ⟨_, by show ((y.val * 16 + 0) * 16 + 0) * 16 + 0 = _; omega, e⟩
      · exact .inr ⟨_, by show ((a.val * 16 + y.val) * 16 + 0) * 16 + 0 = _; omega, e⟩
    · exact .inr ⟨_, by show ((a.val * 16 + b.val) * 16 + y.val) * 16 + 0 = _; omega, e⟩
  · exact .inr ⟨_, by show ((a.val * 16 + b.val) * 16 + c.val) * 16 + y.val = _; omega, e⟩

/-- A table over all slots; over all names. -/
abbrev Fr (α : Type) := F16 (F16 α)
section
variable {α : Type}
noncomputable def Sl.get (s : Sl) (f : Fr α) : α := Sl.rec (fun i j => j.get (i.get f)) s
noncomputable def Sl.set (s : Sl) (v : α) (f : Fr α) : Fr α := Sl.rec (fun i j => i.set (j.set v (i.get f)) f) s
theorem Sl.get_set (s t : Sl) (v : α) (f : Fr α) : s.get (t.set v f) = if s = t then v else s.get f := by
  cases s with | mk i j => cases t with | mk k l =>
  show j.get (i.get (k.set (l.set v (k.get f)) f)) = _
  rw [D16.get_set]
  by_cases h : i = k
  · subst h
    rw [if_pos rfl, D16.get_set]
    by_cases h : j = l
    · subst h; rw [if_pos rfl, if_pos rfl]
    · rw [if_neg h, if_neg (fun e => h (by cases e; rfl))]; rfl
  · rw [if_neg h, if_neg (fun e => h (by cases e; rfl))]; rfl
def Fr.rep (v : α) : Fr α := F16.rep (F16.rep v)
theorem Sl.get_rep (s : Sl) (v : α) : s.get (Fr.rep v) = v := by
  cases s with | mk i j => show j.get (i.get (F16.rep (F16.rep v))) = v; rw [D16.get_rep, D16.get_rep]
abbrev Tab (α : Type) := Fr (Fr α)
noncomputable def Id.get (s : Id) (f : Tab α) : α := Id.rec (fun a b c d => (Sl.mk c d).get ((Sl.mk a b).get f)) s
noncomputable def Id.set (s : Id) (v : α) (f : Tab α) : Tab α := Id.rec (fun a b c d => (Sl.mk a b).set ((Sl.mk c d).set v ((Sl.mk a b).get f)) f) s
theorem Id.get_set (s t : Id) (v : α) (f : Tab α) : s.get (t.set v f) = if s = t then v else s.get f := by
  cases s with | mk a b c d => cases t with | mk a' b' c' d' =>
  show (Sl.mk c d).get ((Sl.mk a b).get ((Sl.mk a' b').set ((Sl.mk c' d').set v ((Sl.mk a' b').get f)) f)) = _
  rw [Sl.get_set]
  by_cases h : Sl.mk a b = Sl.mk a' b'
  · cases h
    rw [if_pos rfl, Sl.get_set]
    by_cases h : Sl.mk c d = Sl.mk c' d'
    · cases h; rw [if_pos rfl, if_pos rfl]
    · rw [if_neg h, if_neg (fun e => h (by cases e; rfl))]; rfl
  · rw [if_neg h, if_neg (fun e => h (by cases e; rfl))]; rfl
def Tab.rep (v : α) : Tab α := Fr.rep (Fr.rep v)
theorem Id.get_rep (s : Id) (v : α) : s.get (Tab.rep v) = v := by
  cases s with | mk a b c d => show (Sl.mk c d).get ((Sl.mk a b).get (Fr.rep (Fr.rep v))) = v; rw [Sl.get_rep, Sl.get_rep]
end

/-- A value, its memory by name. 'tp', 'ts': a place, a slice in memory that nobody writes any more, with what lies there; 'sl': of a block of the state (ex: none: the capacity is known, else at least so much, of elements of so many cells). -/
inductive AV where
  | bool (b : Bool)
  | int (k : IntKind) (n : Int)
  | str (s : List UInt8)
  | nilp
  | ptr (b : Id) (o : Nat)
  | tp (cs : List AV)
  | nils
  | sl (b : Id) (o len cap : Nat) (ex : Nat)
  | ts (cs : List AV) (len cap : Nat) (ex : Bool)
  | nilm
  | map (b : Id)
  | nilf
  | fn (f : Id) (first cap : List AV)
  | nili
  | ifc (t : TypeId) (v : AV)
  | agg (cs : List AV)
  | tup (vs : List AV)
/-- What a block holds. -/
inductive AO where
  | cells (cs : List AV)
  | map (es : List (AV × AV))
  | dead
/-- The state: what the blocks hold, the next block's name. -/
inductive St where
  | mk (h : Tab AO) (n : Id)
/-- What an operation comes to. -/
inductive R where
  | no
  | ok (v : AV) (s : St)
/-- What code comes to. -/
inductive RC where
  | no
  | nor (f : Fr AV) (s : St)
  | exit (id : Nat) (f : Fr AV) (s : St)
  | ret (f : Fr AV) (s : St)
def undef : AV := .tup []

noncomputable def St.h : St → Tab AO := St.rec fun h _ => h
noncomputable def St.n : St → Id := St.rec fun _ n => n
noncomputable def St.obj (s : St) (b : Id) : AO := b.get s.h
noncomputable def St.put (s : St) (b : Id) (o : AO) : St := St.rec (fun h n => .mk (b.set o h) n) s
noncomputable def St.alloc (s : St) (o : AO) (k : Id → St → R) : R := St.rec (fun h n => n.up .no fun m => k n (.mk (n.set o h) m)) s
def St.empty : St := .mk (.rep .dead) (.mk .d0 .d0 .d0 .d0)
theorem St.obj_put (s : St) (b c : Id) (o : AO) : (s.put b o).obj c = if c = b then o else s.obj c := by
  cases s; exact Id.get_set c b o _
@[simp] theorem St.n_put (s : St) (b : Id) (o : AO) : (s.put b o).n = s.n := by cases s; rfl
theorem St.alloc_spec (s : St) (o : AO) (k : Id → St → R) :
    s.alloc o k = .no ∨ ∃ s' : St, s'.n.val = s.n.val + 1 ∧ (∀ c, s'.obj c = if c = s.n then o else s.obj c) ∧ s.alloc o k = k s.n s' := by
  cases s with | mk h n =>
  have e0 : (St.mk h n).alloc o k = n.up .no fun m => k n (.mk (n.set o h) m) := rfl
  rw [e0]
  rcases Id.up_spec n R.no (fun m => k n (.mk (n.set o h) m)) with e | ⟨m, hm, e⟩
  · exact .inl e
  · refine .inr ⟨.mk (n.set o h) m, hm, fun c => ?_, e⟩
    exact Id.get_set c n o h
end Go.Vm
