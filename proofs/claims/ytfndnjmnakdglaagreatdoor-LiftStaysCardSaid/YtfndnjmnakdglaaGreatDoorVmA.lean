/- The abstract machine that the proofs of this claim run in: values, operations, code, calls. No condition. -/
import Derived.Calls
namespace Go.Vm
set_option linter.unusedVariables false

inductive D16 where
  | d0 | d1 | d2 | d3 | d4 | d5 | d6 | d7 | d8 | d9 | d10 | d11 | d12 | d13 | d14 | d15
  deriving DecidableEq

inductive F16 (α : Type) where
  | mk (a0 a1 a2 a3 a4 a5 a6 a7 a8 a9 a10 a11 a12 a13 a14 a15 : α)

section
variable {α : Type}
noncomputable def g0 : F16 α → α := F16.rec (fun a0 a1 a2 a3 a4 a5 a6 a7 a8 a9 a10 a11 a12 a13 a14 a15 => a0)
noncomputable def g1 : F16 α → α := F16.rec (fun a0 a1 a2 a3 a4 a5 a6 a7 a8 a9 a10 a11 a12 a13 a14 a15 => a1)
noncomputable def g2 : F16 α → α := F16.rec (fun a0 a1 a2 a3 a4 a5 a6 a7 a8 a9 a10 a11 a12 a13 a14 a15 => a2)
noncomputable def g3 : F16 α → α := F16.rec (fun a0 a1 a2 a3 a4 a5 a6 a7 a8 a9 a10 a11 a12 a13 a14 a15 => a3)
noncomputable def g4 : F16 α → α := F16.rec (fun a0 a1 a2 a3 a4 a5 a6 a7 a8 a9 a10 a11 a12 a13 a14 a15 => a4)
noncomputable def g5 : F16 α → α := F16.rec (fun a0 a1 a2 a3 a4 a5 a6 a7 a8 a9 a10 a11 a12 a13 a14 a15 => a5)
noncomputable def g6 : F16 α → α := F16.rec (fun a0 a1 a2 a3 a4 a5 a6 a7 a8 a9 a10 a11 a12 a13 a14 a15 => a6)
noncomputable def g7 : F16 α → α := F16.rec (fun a0 a1 a2 a3 a4 a5 a6 a7 a8 a9 a10 a11 a12 a13 a14 a15 => a7)
noncomputable def g8 : F16 α → α := F16.rec (fun a0 a1 a2 a3 a4 a5 a6 a7 a8 a9 a10 a11 a12 a13 a14 a15 => a8)
noncomputable def g9 : F16 α → α := F16.rec (fun a0 a1 a2 a3 a4 a5 a6 a7 a8 a9 a10 a11 a12 a13 a14 a15 => a9)
noncomputable def g10 : F16 α → α := F16.rec (fun a0 a1 a2 a3 a4 a5 a6 a7 a8 a9 a10 a11 a12 a13 a14 a15 => a10)
noncomputable def g11 : F16 α → α := F16.rec (fun a0 a1 a2 a3 a4 a5 a6 a7 a8 a9 a10 a11 a12 a13 a14 a15 => a11)
noncomputable def g12 : F16 α → α := F16.rec (fun a0 a1 a2 a3 a4 a5 a6 a7 a8 a9 a10 a11 a12 a13 a14 a15 => a12)
noncomputable def g13 : F16 α → α := F16.rec (fun a0 a1 a2 a3 a4 a5 a6 a7 a8 a9 a10 a11 a12 a13 a14 a15 => a13)
noncomputable def g14 : F16 α → α := F16.rec (fun a0 a1 a2 a3 a4 a5 a6 a7 a8 a9 a10 a11 a12 a13 a14 a15 => a14)
noncomputable def g15 : F16 α → α := F16.rec (fun a0 a1 a2 a3 a4 a5 a6 a7 a8 a9 a10 a11 a12 a13 a14 a15 => a15)
noncomputable def s0 (v : α) : F16 α → F16 α := F16.rec (fun a0 a1 a2 a3 a4 a5 a6 a7 a8 a9 a10 a11 a12 a13 a14 a15 => .mk v a1 a2 a3 a4 a5 a6 a7 a8 a9 a10 a11 a12 a13 a14 a15)
noncomputable def s1 (v : α) : F16 α → F16 α := F16.rec (fun a0 a1 a2 a3 a4 a5 a6 a7 a8 a9 a10 a11 a12 a13 a14 a15 => .mk a0 v a2 a3 a4 a5 a6 a7 a8 a9 a10 a11 a12 a13 a14 a15)
noncomputable def s2 (v : α) : F16 α → F16 α := F16.rec (fun a0 a1 a2 a3 a4 a5 a6 a7 a8 a9 a10 a11 a12 a13 a14 a15 => .mk a0 a1 v a3 a4 a5 a6 a7 a8 a9 a10 a11 a12 a13 a14 a15)
noncomputable def s3 (v : α) : F16 α → F16 α := F16.rec (fun a0 a1 a2 a3 a4 a5 a6 a7 a8 a9 a10 a11 a12 a13 a14 a15 => .mk a0 a1 a2 v a4 a5 a6 a7 a8 a9 a10 a11 a12 a13 a14 a15)
noncomputable def s4 (v : α) : F16 α → F16 α := F16.rec (fun a0 a1 a2 a3 a4 a5 a6 a7 a8 a9 a10 a11 a12 a13 a14 a15 => .mk a0 a1 a2 a3 v a5 a6 a7 a8 a9 a10 a11 a12 a13 a14 a15)
noncomputable def s5 (v : α) : F16 α → F16 α := F16.rec (fun a0 a1 a2 a3 a4 a5 a6 a7 a8 a9 a10 a11 a12 a13 a14 a15 => .mk a0 a1 a2 a3 a4 v a6 a7 a8 a9 a10 a11 a12 a13 a14 a15)
noncomputable def s6 (v : α) : F16 α → F16 α := F16.rec (fun a0 a1 a2 a3 a4 a5 a6 a7 a8 a9 a10 a11 a12 a13 a14 a15 => .mk a0 a1 a2 a3 a4 a5 v a7 a8 a9 a10 a11 a12 a13 a14 a15)
noncomputable def s7 (v : α) : F16 α → F16 α := F16.rec (fun a0 a1 a2 a3 a4 a5 a6 a7 a8 a9 a10 a11 a12 a13 a14 a15 => .mk a0 a1 a2 a3 a4 a5 a6 v a8 a9 a10 a11 a12 a13 a14 a15)
noncomputable def s8 (v : α) : F16 α → F16 α := F16.rec (fun a0 a1 a2 a3 a4 a5 a6 a7 a8 a9 a10 a11 a12 a13 a14 a15 => .mk a0 a1 a2 a3 a4 a5 a6 a7 v a9 a10 a11 a12 a13 a14 a15)
noncomputable def s9 (v : α) : F16 α → F16 α := F16.rec (fun a0 a1 a2 a3 a4 a5 a6 a7 a8 a9 a10 a11 a12 a13 a14 a15 => .mk a0 a1 a2 a3 a4 a5 a6 a7 a8 v a10 a11 a12 a13 a14 a15)
noncomputable def s10 (v : α) : F16 α → F16 α := F16.rec (fun a0 a1 a2 a3 a4 a5 a6 a7 a8 a9 a10 a11 a12 a13 a14 a15 => .mk a0 a1 a2 a3 a4 a5 a6 a7 a8 a9 v a11 a12 a13 a14 a15)
noncomputable def s11 (v : α) : F16 α → F16 α := F16.rec (fun a0 a1 a2 a3 a4 a5 a6 a7 a8 a9 a10 a11 a12 a13 a14 a15 => .mk a0 a1 a2 a3 a4 a5 a6 a7 a8 a9 a10 v a12 a13 a14 a15)
noncomputable def s12 (v : α) : F16 α → F16 α := F16.rec (fun a0 a1 a2 a3 a4 a5 a6 a7 a8 a9 a10 a11 a12 a13 a14 a15 => .mk a0 a1 a2 a3 a4 a5 a6 a7 a8 a9 a10 a11 v a13 a14 a15)
noncomputable def s13 (v : α) : F16 α → F16 α := F16.rec (fun a0 a1 a2 a3 a4 a5 a6 a7 a8 a9 a10 a11 a12 a13 a14 a15 => .mk a0 a1 a2 a3 a4 a5 a6 a7 a8 a9 a10 a11 a12 v a14 a15)
noncomputable def s14 (v : α) : F16 α → F16 α := F16.rec (fun a0 a1 a2 a3 a4 a5 a6 a7 a8 a9 a10 a11 a12 a13 a14 a15 => .mk a0 a1 a2 a3 a4 a5 a6 a7 a8 a9 a10 a11 a12 a13 v a15)
noncomputable def s15 (v : α) : F16 α → F16 α := F16.rec (fun a0 a1 a2 a3 a4 a5 a6 a7 a8 a9 a10 a11 a12 a13 a14 a15 => .mk a0 a1 a2 a3 a4 a5 a6 a7 a8 a9 a10 a11 a12 a13 a14 v)
noncomputable def D16.get : D16 → F16 α → α := D16.rec g0 g1 g2 g3 g4 g5 g6 g7 g8 g9 g10 g11 g12 g13 g14 g15
noncomputable def D16.set : D16 → α → F16 α → F16 α := D16.rec s0 s1 s2 s3 s4 s5 s6 s7 s8 s9 s10 s11 s12 s13 s14 s15
def F16.rep (v : α) : F16 α := .mk v v v v v v v v v v v v v v v v
theorem D16.get_set (d e : D16) (v : α) (f : F16 α) : d.get (e.set v f) = if d = e then v else d.get f := by
  cases f; cases d <;> cases e <;> rfl
theorem D16.get_rep (d : D16) (v : α) : d.get (F16.rep v) = v := by cases d <;> rfl
end

noncomputable def D16.val : D16 → Nat := D16.rec 0 1 2 3 4 5 6 7 8 9 10 11 12 13 14 15
noncomputable def D16.dig (n : Nat) : D16 := match n with | 0 => .d0 | 1 => .d1 | 2 => .d2 | 3 => .d3 | 4 => .d4 | 5 => .d5 | 6 => .d6 | 7 => .d7 | 8 => .d8 | 9 => .d9 | 10 => .d10 | 11 => .d11 | 12 => .d12 | 13 => .d13 | 14 => .d14 | _ => .d15
noncomputable def D16.up {β : Type} : D16 → β → (D16 → β) → β := D16.rec (fun _ k => k .d1) (fun _ k => k .d2) (fun _ k => k .d3) (fun _ k => k .d4) (fun _ k => k .d5) (fun _ k => k .d6) (fun _ k => k .d7) (fun _ k => k .d8) (fun _ k => k .d9) (fun _ k => k .d10) (fun _ k => k .d11) (fun _ k => k .d12) (fun _ k => k .d13) (fun _ k => k .d14) (fun _ k => k .d15) (fun c _ => c)
theorem D16.val_ofNat (n : Nat) (h : n < 16) : (D16.dig n).val = n := by
  obtain h | h | h | h | h | h | h | h | h | h | h | h | h | h | h | h : n = 0 ∨ n = 1 ∨ n = 2 ∨ n = 3 ∨ n = 4 ∨ n = 5 ∨ n = 6 ∨ n = 7 ∨ n = 8 ∨ n = 9 ∨ n = 10 ∨ n = 11 ∨ n = 12 ∨ n = 13 ∨ n = 14 ∨ n = 15 := by omega
  all_goals subst h; rfl
theorem D16.val_lt (d : D16) : d.val < 16 := by cases d <;> decide
theorem D16.val_inj {d e : D16} (h : d.val = e.val) : d = e := by
  have : ∀ d : D16, D16.dig d.val = d := fun d => by cases d <;> rfl
  rw [← this d, ← this e, h]

inductive Sl where
  | mk (i j : D16)
  deriving DecidableEq
noncomputable def Sl.val : Sl → Nat := Sl.rec fun i j => i.val * 16 + j.val
noncomputable def Sl.ofNat (n : Nat) : Sl := .mk (.dig (n / 16)) (.dig (n % 16))
theorem Sl.val_ofNat {n : Nat} (h : n < 256) : (Sl.ofNat n).val = n := by
  show (D16.dig (n / 16)).val * 16 + (D16.dig (n % 16)).val = n
  rw [D16.val_ofNat _ (by omega), D16.val_ofNat _ (by omega)]; omega
theorem Sl.val_inj {s t : Sl} (h : s.val = t.val) : s = t := by
  cases s with | mk i j => cases t with | mk k l =>
  have h' : i.val * 16 + j.val = k.val * 16 + l.val := h
  have h1 := j.val_lt; have h2 := l.val_lt
  have e1 : i.val = k.val := by omega
  have e2 : j.val = l.val := by omega
  rw [D16.val_inj e1, D16.val_inj e2]

inductive Id where
  | mk (a b c d : D16) (far : Nat)
  deriving DecidableEq
noncomputable def Id.val : Id → Nat := Id.rec fun a b c d e => (((e * 16 + a.val) * 16 + b.val) * 16 + c.val) * 16 + d.val
noncomputable def Id.ofNat (n : Nat) : Id := .mk (.dig (n / 4096 % 16)) (.dig (n / 256 % 16)) (.dig (n / 16 % 16)) (.dig (n % 16)) (n / 65536)
theorem Id.val_of (n : Nat) : (Id.ofNat n).val = n := by
  show (((n / 65536 * 16 + (D16.dig (n / 4096 % 16)).val) * 16 + (D16.dig (n / 256 % 16)).val) * 16 + (D16.dig (n / 16 % 16)).val) * 16 + (D16.dig (n % 16)).val = n
  rw [D16.val_ofNat _ (by omega), D16.val_ofNat _ (by omega), D16.val_ofNat _ (by omega), D16.val_ofNat _ (by omega)]; omega
theorem Id.val_ofNat {n : Nat} (h : n < 65536) : (Id.ofNat n).val = n := Id.val_of n
theorem Id.val_inj {s t : Id} (h : s.val = t.val) : s = t := by
  cases s with | mk a b c d e => cases t with | mk a' b' c' d' e' =>
  have h' : (((e * 16 + a.val) * 16 + b.val) * 16 + c.val) * 16 + d.val = (((e' * 16 + a'.val) * 16 + b'.val) * 16 + c'.val) * 16 + d'.val := h
  have := a.val_lt; have := b.val_lt; have := c.val_lt; have := d.val_lt
  have := a'.val_lt; have := b'.val_lt; have := c'.val_lt; have := d'.val_lt
  rw [D16.val_inj (show a.val = a'.val by omega), D16.val_inj (show b.val = b'.val by omega), D16.val_inj (show c.val = c'.val by omega), D16.val_inj (show d.val = d'.val by omega), show e = e' by omega]
noncomputable def Id.up {β : Type} (x : Id) (n : β) (k : Id → β) : β :=
  Id.rec (fun a b c d e => d.up (c.up (b.up (a.up (k (.mk .d0 .d0 .d0 .d0 (Nat.succ e))) fun a => k (.mk a .d0 .d0 .d0 e)) fun b => k (.mk a b .d0 .d0 e)) fun c => k (.mk a b c .d0 e)) fun d => k (.mk a b c d e)) x
theorem D16.up_spec {β : Type} (d : D16) (c : β) (k : D16 → β) : (d.val = 15 ∧ d.up c k = c) ∨ (∃ e : D16, e.val = d.val + 1 ∧ d.up c k = k e) := by
  cases d <;> first | exact .inl ⟨rfl, rfl⟩ | exact .inr ⟨_, rfl, rfl⟩
theorem Id.up_sure {β : Type} (x : Id) (n : β) (k : Id → β) : ∃ y : Id, y.val = x.val + 1 ∧ x.up n k = k y := by
  cases x with | mk a b c d e =>
  have hv : (Id.mk a b c d e).val = (((e * 16 + a.val) * 16 + b.val) * 16 + c.val) * 16 + d.val := rfl
  have hu : (Id.mk a b c d e).up n k = d.up (c.up (b.up (a.up (k (.mk .d0 .d0 .d0 .d0 (Nat.succ e))) fun a => k (.mk a .d0 .d0 .d0 e)) fun b => k (.mk a b .d0 .d0 e)) fun c => k (.mk a b c .d0 e)) fun d => k (.mk a b c d e) := rfl
  rw [hu, hv]
  rcases D16.up_spec d (c.up (b.up (a.up (k (.mk .d0 .d0 .d0 .d0 (Nat.succ e))) fun a => k (.mk a .d0 .d0 .d0 e)) fun b => k (.mk a b .d0 .d0 e)) fun c => k (.mk a b c .d0 e)) (fun d => k (.mk a b c d e)) with ⟨h, q⟩ | ⟨y, h, q⟩
  · rw [q]
    rcases D16.up_spec c (b.up (a.up (k (.mk .d0 .d0 .d0 .d0 (Nat.succ e))) fun a => k (.mk a .d0 .d0 .d0 e)) fun b => k (.mk a b .d0 .d0 e)) (fun c => k (.mk a b c .d0 e)) with ⟨h2, q⟩ | ⟨y, h2, q⟩
    · rw [q]
      rcases D16.up_spec b (a.up (k (.mk .d0 .d0 .d0 .d0 (Nat.succ e))) fun a => k (.mk a .d0 .d0 .d0 e)) (fun b => k (.mk a b .d0 .d0 e)) with ⟨h3, q⟩ | ⟨y, h3, q⟩
      · rw [q]
        rcases D16.up_spec a (k (.mk .d0 .d0 .d0 .d0 (Nat.succ e))) (fun a => k (.mk a .d0 .d0 .d0 e)) with ⟨h4, q⟩ | ⟨y, h4, q⟩
        · refine ⟨_, ?_, q⟩
          show ((((e + 1) * 16 + 0) * 16 + 0) * 16 + 0) * 16 + 0 = _; omega
        · refine ⟨_, ?_, q⟩
          show (((e * 16 + y.val) * 16 + 0) * 16 + 0) * 16 + 0 = _; omega
      · refine ⟨_, ?_, q⟩
        show (((e * 16 + a.val) * 16 + y.val) * 16 + 0) * 16 + 0 = _; omega
    · refine ⟨_, ?_, q⟩
      show (((e * 16 + a.val) * 16 + b.val) * 16 + y.val) * 16 + 0 = _; omega
  · refine ⟨_, ?_, q⟩
    show (((e * 16 + a.val) * 16 + b.val) * 16 + c.val) * 16 + y.val = _; omega
theorem Id.up_spec {β : Type} (x : Id) (n : β) (k : Id → β) : x.up n k = n ∨ ∃ y : Id, y.val = x.val + 1 ∧ x.up n k = k y := .inr (x.up_sure n k)

abbrev Fr (α : Type) := F16 (F16 α)
section
variable {α : Type}
noncomputable def Sl.get (s : Sl) (f : Fr α) : α := Sl.rec (fun i j => j.get (i.get f)) s
noncomputable def Sl.set (s : Sl) (v : α) (f : Fr α) : Fr α := Sl.rec (fun i j => i.set (j.set v (i.get f)) f) s
theorem Sl.get_set (s t : Sl) (v : α) (f : Fr α) : s.get (t.set v f) = if s = t then v else s.get f := by
  cases s with | mk i j => cases t with | mk k l =>
  show j.get (i.get (k.set (l.set v (k.get f)) f)) = _
  rw [D16.get_set]
  by_cases h : i = k
  · subst h
    rw [if_pos rfl, D16.get_set]
    by_cases h : j = l
    · subst h; rw [if_pos rfl, if_pos rfl]
    · rw [if_neg h, if_neg (fun e => h (by cases e; rfl))]; rfl
  · rw [if_neg h, if_neg (fun e => h (by cases e; rfl))]; rfl
def Fr.rep (v : α) : Fr α := F16.rep (F16.rep v)
theorem Sl.get_rep (s : Sl) (v : α) : s.get (Fr.rep v) = v := by
  cases s with | mk i j => show j.get (i.get (F16.rep (F16.rep v))) = v; rw [D16.get_rep, D16.get_rep]
inductive Tab (α : Type) where
  | mk (near : Fr (Fr α)) (far : Id → α)
noncomputable def Id.get (s : Id) (f : Tab α) : α := Id.rec (fun a b c d e => Tab.rec (fun near far => Nat.rec ((Sl.mk c d).get ((Sl.mk a b).get near)) (fun e _ => far (.mk a b c d e)) e) f) s
noncomputable def Id.set (s : Id) (v : α) (f : Tab α) : Tab α :=
  Id.rec (fun a b c d e => Tab.rec (fun near far => Nat.rec (.mk ((Sl.mk a b).set ((Sl.mk c d).set v ((Sl.mk a b).get near)) near) far) (fun e _ => .mk near fun y => if y = .mk a b c d e then v else far y) e) f) s
theorem Id.get_set (s t : Id) (v : α) (f : Tab α) : s.get (t.set v f) = if s = t then v else s.get f := by
  cases s with | mk a b c d e => cases t with | mk a' b' c' d' e' => cases f with | mk f g =>
  cases e with
  | zero =>
    cases e' with
    | zero =>
      show (Sl.mk c d).get ((Sl.mk a b).get ((Sl.mk a' b').set ((Sl.mk c' d').set v ((Sl.mk a' b').get f)) f)) = _
      rw [Sl.get_set]
      by_cases h : Sl.mk a b = Sl.mk a' b'
      · cases h
        rw [if_pos rfl, Sl.get_set]
        by_cases h : Sl.mk c d = Sl.mk c' d'
        · cases h; rw [if_pos rfl, if_pos rfl]
        · rw [if_neg h, if_neg (fun e => h (by cases e; rfl))]; rfl
      · rw [if_neg h, if_neg (fun e => h (by cases e; rfl))]; rfl
    | succ e' => rw [if_neg (fun e => by cases e)]; rfl
  | succ e =>
    cases e' with
    | zero => rw [if_neg (fun e => by cases e)]; rfl
    | succ e' =>
      show (if Id.mk a b c d e = .mk a' b' c' d' e' then v else g (.mk a b c d e)) = _
      by_cases h : Id.mk a b c d e = .mk a' b' c' d' e'
      · rw [if_pos h, if_pos (by cases h; rfl)]
      · rw [if_neg h, if_neg (fun k => h (by cases k; rfl))]; rfl
def Tab.rep (v : α) : Tab α := .mk (Fr.rep (Fr.rep v)) fun _ => v
theorem Id.get_rep (s : Id) (v : α) : s.get (Tab.rep v) = v := by
  cases s with | mk a b c d e =>
  cases e with
  | zero => show (Sl.mk c d).get ((Sl.mk a b).get (Fr.rep (Fr.rep v))) = v; rw [Sl.get_rep, Sl.get_rep]
  | succ e => rfl
theorem Tab.ext' {f g : Tab α} (h : ∀ b : Id, b.get f = b.get g) (hn : ∀ {β : Type} {f g : Fr β}, (∀ s : Sl, s.get f = s.get g) → f = g) : f = g := by
  cases f with | mk f f' => cases g with | mk g g' =>
  have h1 : f = g := hn fun ⟨a, b⟩ => hn fun ⟨c, d⟩ => h (.mk a b c d 0)
  have h2 : f' = g' := funext fun ⟨a, b, c, d, e⟩ => h (.mk a b c d (e + 1))
  rw [h1, h2]
end

inductive AV where
  | bool (b : Bool)
  | int (k : IntKind) (n : Int)
  | str (s : List UInt8)
  | nilp
  | ptr (b : Id) (o : Nat)
  | tp (cs : List AV)
  | nils
  | sl (b : Id) (o len cap : Nat) (ex : Nat)
  | ts (cs : List AV) (len cap : Nat) (ex : Bool)
  | nilm
  | map (b : Id)
  | nilf
  | fn (f : Id) (first cap : List AV)
  | nili
  | ifc (t : TypeId) (v : AV)
  | agg (cs : List AV)
  | tup (vs : List AV)
inductive AO where
  | cells (cs : List AV)
  | map (es : List (AV × AV))
  | dead
inductive St where
  | mk (h : Tab AO) (n : Id)
inductive R where
  | no
  | ok (v : AV) (s : St)
inductive RC where
  | no
  | nor (f : Fr AV) (s : St)
  | exit (id : Nat) (f : Fr AV) (s : St)
  | ret (f : Fr AV) (s : St)
def undef : AV := .tup []

noncomputable def St.h : St → Tab AO := St.rec fun h _ => h
noncomputable def St.n : St → Id := St.rec fun _ n => n
noncomputable def St.obj (s : St) (b : Id) : AO := b.get s.h
noncomputable def St.put (s : St) (b : Id) (o : AO) : St := St.rec (fun h n => .mk (b.set o h) n) s
noncomputable def St.alloc (s : St) (o : AO) (k : Id → St → R) : R := St.rec (fun h n => n.up .no fun m => k n (.mk (n.set o h) m)) s
def St.empty : St := .mk (.rep .dead) (.mk .d0 .d0 .d0 .d0 0)
theorem St.obj_put (s : St) (b c : Id) (o : AO) : (s.put b o).obj c = if c = b then o else s.obj c := by
  cases s; exact Id.get_set c b o _
@[simp] theorem St.n_put (s : St) (b : Id) (o : AO) : (s.put b o).n = s.n := by cases s; rfl
theorem St.alloc_spec (s : St) (o : AO) (k : Id → St → R) :
    s.alloc o k = .no ∨ ∃ s' : St, s'.n.val = s.n.val + 1 ∧ (∀ c, s'.obj c = if c = s.n then o else s.obj c) ∧ s.alloc o k = k s.n s' := by
  cases s with | mk h n =>
  have e0 : (St.mk h n).alloc o k = n.up .no fun m => k n (.mk (n.set o h) m) := rfl
  rw [e0]
  rcases Id.up_spec n R.no (fun m => k n (.mk (n.set o h) m)) with e | ⟨m, hm, e⟩
  · exact .inl e
  · refine .inr ⟨.mk (n.set o h) m, hm, fun c => ?_, e⟩
    exact Id.get_set c n o h
end Go.Vm
namespace Go.Vm
set_option linter.unusedVariables false
noncomputable def AV.onBool {β : Type} : AV → β → (Bool → β) → β := AV.rec (motive_1 := fun _ => β → (Bool → β) → β) (motive_2 := fun _ => Unit) (fun b _ h => h b) (fun _ _ d _ => d) (fun _ d _ => d) (fun d _ => d) (fun _ _ d _ => d) (fun _ _ d _ => d) (fun d _ => d) (fun _ _ _ _ _ d _ => d) (fun _ _ _ _ _ d _ => d) (fun d _ => d) (fun _ d _ => d) (fun d _ => d) (fun _ _ _ _ _ d _ => d) (fun d _ => d) (fun _ _ _ d _ => d) (fun _ _ d _ => d) (fun _ _ d _ => d) () (fun _ _ _ _ => ())
noncomputable def AV.onInt {β : Type} : AV → β → (IntKind → Int → β) → β := AV.rec (motive_1 := fun _ => β → (IntKind → Int → β) → β) (motive_2 := fun _ => Unit) (fun _ d _ => d) (fun k n _ h => h k n) (fun _ d _ => d) (fun d _ => d) (fun _ _ d _ => d) (fun _ _ d _ => d) (fun d _ => d) (fun _ _ _ _ _ d _ => d) (fun _ _ _ _ _ d _ => d) (fun d _ => d) (fun _ d _ => d) (fun d _ => d) (fun _ _ _ _ _ d _ => d) (fun d _ => d) (fun _ _ _ d _ => d) (fun _ _ d _ => d) (fun _ _ d _ => d) () (fun _ _ _ _ => ())
noncomputable def AV.onStr {β : Type} : AV → β → (List UInt8 → β) → β := AV.rec (motive_1 := fun _ => β → (List UInt8 → β) → β) (motive_2 := fun _ => Unit) (fun _ d _ => d) (fun _ _ d _ => d) (fun s _ h => h s) (fun d _ => d) (fun _ _ d _ => d) (fun _ _ d _ => d) (fun d _ => d) (fun _ _ _ _ _ d _ => d) (fun _ _ _ _ _ d _ => d) (fun d _ => d) (fun _ d _ => d) (fun d _ => d) (fun _ _ _ _ _ d _ => d) (fun d _ => d) (fun _ _ _ d _ => d) (fun _ _ d _ => d) (fun _ _ d _ => d) () (fun _ _ _ _ => ())
noncomputable def AV.onPtr {β : Type} : AV → β → (Id → Nat → β) → (List AV → β) → β := AV.rec (motive_1 := fun _ => β → (Id → Nat → β) → (List AV → β) → β) (motive_2 := fun _ => Unit) (fun _ d _ _ => d) (fun _ _ d _ _ => d) (fun _ d _ _ => d) (fun d _ _ => d) (fun b o _ h _ => h b o) (fun cs _ _ _ g => g cs) (fun d _ _ => d) (fun _ _ _ _ _ d _ _ => d) (fun _ _ _ _ _ d _ _ => d) (fun d _ _ => d) (fun _ d _ _ => d) (fun d _ _ => d) (fun _ _ _ _ _ d _ _ => d) (fun d _ _ => d) (fun _ _ _ d _ _ => d) (fun _ _ d _ _ => d) (fun _ _ d _ _ => d) () (fun _ _ _ _ => ())
noncomputable def AV.onSl {β : Type} : AV → β → β → (Id → Nat → Nat → Nat → Nat → β) → (List AV → Nat → Nat → Bool → β) → β := AV.rec (motive_1 := fun _ => β → β → (Id → Nat → Nat → Nat → Nat → β) → (List AV → Nat → Nat → Bool → β) → β) (motive_2 := fun _ => Unit) (fun _ d _ _ _ => d) (fun _ _ d _ _ _ => d) (fun _ d _ _ _ => d) (fun d _ _ _ => d) (fun _ _ d _ _ _ => d) (fun _ _ d _ _ _ => d) (fun _ e _ _ => e) (fun b o len cap ex _ _ h _ => h b o len cap ex) (fun cs len cap ex _ _ _ _ g => g cs len cap ex) (fun d _ _ _ => d) (fun _ d _ _ _ => d) (fun d _ _ _ => d) (fun _ _ _ _ _ d _ _ _ => d) (fun d _ _ _ => d) (fun _ _ _ d _ _ _ => d) (fun _ _ d _ _ _ => d) (fun _ _ d _ _ _ => d) () (fun _ _ _ _ => ())
noncomputable def AV.onMap {β : Type} : AV → β → β → (Id → β) → β := AV.rec (motive_1 := fun _ => β → β → (Id → β) → β) (motive_2 := fun _ => Unit) (fun _ d _ _ => d) (fun _ _ d _ _ => d) (fun _ d _ _ => d) (fun d _ _ => d) (fun _ _ d _ _ => d) (fun _ _ d _ _ => d) (fun d _ _ => d) (fun _ _ _ _ _ d _ _ => d) (fun _ _ _ _ _ d _ _ => d) (fun _ e _ => e) (fun b _ _ h => h b) (fun d _ _ => d) (fun _ _ _ _ _ d _ _ => d) (fun d _ _ => d) (fun _ _ _ d _ _ => d) (fun _ _ d _ _ => d) (fun _ _ d _ _ => d) () (fun _ _ _ _ => ())
noncomputable def AV.onFn {β : Type} : AV → β → (Id → List AV → List AV → β) → β := AV.rec (motive_1 := fun _ => β → (Id → List AV → List AV → β) → β) (motive_2 := fun _ => Unit) (fun _ d _ => d) (fun _ _ d _ => d) (fun _ d _ => d) (fun d _ => d) (fun _ _ d _ => d) (fun _ _ d _ => d) (fun d _ => d) (fun _ _ _ _ _ d _ => d) (fun _ _ _ _ _ d _ => d) (fun d _ => d) (fun _ d _ => d) (fun d _ => d) (fun f first cap _ _ _ h => h f first cap) (fun d _ => d) (fun _ _ _ d _ => d) (fun _ _ d _ => d) (fun _ _ d _ => d) () (fun _ _ _ _ => ())
noncomputable def AV.onAgg {β : Type} : AV → β → (List AV → β) → β := AV.rec (motive_1 := fun _ => β → (List AV → β) → β) (motive_2 := fun _ => Unit) (fun _ d _ => d) (fun _ _ d _ => d) (fun _ d _ => d) (fun d _ => d) (fun _ _ d _ => d) (fun _ _ d _ => d) (fun d _ => d) (fun _ _ _ _ _ d _ => d) (fun _ _ _ _ _ d _ => d) (fun d _ => d) (fun _ d _ => d) (fun d _ => d) (fun _ _ _ _ _ d _ => d) (fun d _ => d) (fun _ _ _ d _ => d) (fun cs _ _ h => h cs) (fun _ _ d _ => d) () (fun _ _ _ _ => ())
noncomputable def AV.onTup {β : Type} : AV → β → (List AV → β) → β := AV.rec (motive_1 := fun _ => β → (List AV → β) → β) (motive_2 := fun _ => Unit) (fun _ d _ => d) (fun _ _ d _ => d) (fun _ d _ => d) (fun d _ => d) (fun _ _ d _ => d) (fun _ _ d _ => d) (fun d _ => d) (fun _ _ _ _ _ d _ => d) (fun _ _ _ _ _ d _ => d) (fun d _ => d) (fun _ d _ => d) (fun d _ => d) (fun _ _ _ _ _ d _ => d) (fun d _ => d) (fun _ _ _ d _ => d) (fun _ _ d _ => d) (fun vs _ _ h => h vs) () (fun _ _ _ _ => ())
noncomputable def AV.onCells {β : Type} : AV → β → (List AV → β) → (List AV → β) → β := AV.rec (motive_1 := fun _ => β → (List AV → β) → (List AV → β) → β) (motive_2 := fun _ => Unit) (fun _ d _ _ => d) (fun _ _ d _ _ => d) (fun _ d _ _ => d) (fun d _ _ => d) (fun _ _ d _ _ => d) (fun _ _ d _ _ => d) (fun d _ _ => d) (fun _ _ _ _ _ d _ _ => d) (fun _ _ _ _ _ d _ _ => d) (fun d _ _ => d) (fun _ d _ _ => d) (fun d _ _ => d) (fun _ _ _ _ _ d _ _ => d) (fun d _ _ => d) (fun _ _ _ d _ _ => d) (fun cs _ _ h _ => h cs) (fun vs _ _ _ g => g vs) () (fun _ _ _ _ => ())
noncomputable def AV.onNil {β : Type} : AV → β → β → β := AV.rec (motive_1 := fun _ => β → β → β) (motive_2 := fun _ => Unit) (fun _ d _ => d) (fun _ _ d _ => d) (fun _ d _ => d) (fun _ e => e) (fun _ _ d _ => d) (fun _ _ d _ => d) (fun _ e => e) (fun _ _ _ _ _ d _ => d) (fun _ _ _ _ _ d _ => d) (fun _ e => e) (fun _ d _ => d) (fun _ e => e) (fun _ _ _ _ _ d _ => d) (fun _ e => e) (fun _ _ _ d _ => d) (fun _ _ d _ => d) (fun _ _ d _ => d) () (fun _ _ _ _ => ())
noncomputable def AV.onIsSl {β : Type} : AV → β → β → β := AV.rec (motive_1 := fun _ => β → β → β) (motive_2 := fun _ => Unit) (fun _ d _ => d) (fun _ _ d _ => d) (fun _ d _ => d) (fun d _ => d) (fun _ _ d _ => d) (fun _ _ d _ => d) (fun _ e => e) (fun b o len cap ex _ e => e) (fun cs len cap ex _ _ e => e) (fun d _ => d) (fun _ d _ => d) (fun d _ => d) (fun _ _ _ _ _ d _ => d) (fun d _ => d) (fun _ _ _ d _ => d) (fun _ _ d _ => d) (fun _ _ d _ => d) () (fun _ _ _ _ => ())
noncomputable def AV.onIsPtr {β : Type} : AV → β → β → β := AV.rec (motive_1 := fun _ => β → β → β) (motive_2 := fun _ => Unit) (fun _ d _ => d) (fun _ _ d _ => d) (fun _ d _ => d) (fun _ e => e) (fun b o _ e => e) (fun cs _ _ e => e) (fun d _ => d) (fun _ _ _ _ _ d _ => d) (fun _ _ _ _ _ d _ => d) (fun d _ => d) (fun _ d _ => d) (fun d _ => d) (fun _ _ _ _ _ d _ => d) (fun d _ => d) (fun _ _ _ d _ => d) (fun _ _ d _ => d) (fun _ _ d _ => d) () (fun _ _ _ _ => ())
noncomputable def AV.onIsMap {β : Type} : AV → β → β → β := AV.rec (motive_1 := fun _ => β → β → β) (motive_2 := fun _ => Unit) (fun _ d _ => d) (fun _ _ d _ => d) (fun _ d _ => d) (fun d _ => d) (fun _ _ d _ => d) (fun _ _ d _ => d) (fun d _ => d) (fun _ _ _ _ _ d _ => d) (fun _ _ _ _ _ d _ => d) (fun _ e => e) (fun b _ e => e) (fun d _ => d) (fun _ _ _ _ _ d _ => d) (fun d _ => d) (fun _ _ _ d _ => d) (fun _ _ d _ => d) (fun _ _ d _ => d) () (fun _ _ _ _ => ())
noncomputable def AV.onIsFn {β : Type} : AV → β → β → β := AV.rec (motive_1 := fun _ => β → β → β) (motive_2 := fun _ => Unit) (fun _ d _ => d) (fun _ _ d _ => d) (fun _ d _ => d) (fun d _ => d) (fun _ _ d _ => d) (fun _ _ d _ => d) (fun d _ => d) (fun _ _ _ _ _ d _ => d) (fun _ _ _ _ _ d _ => d) (fun d _ => d) (fun _ d _ => d) (fun _ e => e) (fun f first cap _ _ _ e => e) (fun d _ => d) (fun _ _ _ d _ => d) (fun _ _ d _ => d) (fun _ _ d _ => d) () (fun _ _ _ _ => ())
noncomputable def AV.onIsIfc {β : Type} : AV → β → β → β := AV.rec (motive_1 := fun _ => β → β → β) (motive_2 := fun _ => Unit) (fun _ d _ => d) (fun _ _ d _ => d) (fun _ d _ => d) (fun d _ => d) (fun _ _ d _ => d) (fun _ _ d _ => d) (fun d _ => d) (fun _ _ _ _ _ d _ => d) (fun _ _ _ _ _ d _ => d) (fun d _ => d) (fun _ d _ => d) (fun d _ => d) (fun _ _ _ _ _ d _ => d) (fun _ e => e) (fun t v _ _ e => e) (fun _ _ d _ => d) (fun _ _ d _ => d) () (fun _ _ _ _ => ())
noncomputable def AV.onNil3 {β : Type} : AV → β → β → β := AV.rec (motive_1 := fun _ => β → β → β) (motive_2 := fun _ => Unit) (fun _ d _ => d) (fun _ _ d _ => d) (fun _ d _ => d) (fun _ e => e) (fun _ _ d _ => d) (fun _ _ d _ => d) (fun d _ => d) (fun _ _ _ _ _ d _ => d) (fun _ _ _ _ _ d _ => d) (fun d _ => d) (fun _ d _ => d) (fun _ e => e) (fun _ _ _ _ _ d _ => d) (fun _ e => e) (fun _ _ _ d _ => d) (fun _ _ d _ => d) (fun _ _ d _ => d) () (fun _ _ _ _ => ())
noncomputable def br {β : Type} (b : Bool) (x y : β) : β := Bool.rec y x b
noncomputable def R.on {β : Type} (r : R) (d : β) (k : AV → St → β) : β := R.rec d k r
noncomputable def RC.on {β : Type} (r : RC) (d : β) (k : Fr AV → St → β) (e : Nat → Fr AV → St → β) (t : Fr AV → St → β) : β := RC.rec d k e t r
noncomputable def AO.onCells {β : Type} (o : AO) (d : β) (k : List AV → β) : β := AO.rec (fun cs _ k => k cs) (fun _ d _ => d) (fun d _ => d) o d k
noncomputable def AO.onMap {β : Type} (o : AO) (d : β) (k : List (AV × AV) → β) : β := AO.rec (fun _ d _ => d) (fun es _ k => k es) (fun d _ => d) o d k

section
variable {α : Type}
noncomputable def tk (n : Nat) : List α → List α := Nat.rec (fun _ => []) (fun _ ih l => List.rec (fun _ => []) (fun x r _ ih => x :: ih r) l ih) n
noncomputable def dr (n : Nat) : List α → List α := Nat.rec (fun l => l) (fun _ ih l => List.rec (fun _ => []) (fun _ r _ ih => ih r) l ih) n
noncomputable def nth (n : Nat) : List α → Option α := Nat.rec (fun l => List.rec none (fun x _ _ => some x) l) (fun _ ih l => List.rec (fun _ => none) (fun _ r _ ih => ih r) l ih) n
noncomputable def apd (a b : List α) : List α := List.rec b (fun x _ ih => x :: ih) a
noncomputable def over (xs : List α) : List α → List α := List.rec (fun l => l) (fun x _ ih l => List.rec (fun _ _ => []) (fun _ r _ ih x => x :: ih r) l ih x) xs
noncomputable def splice (o : Nat) (xs : List α) : List α → List α := Nat.rec (fun l => over xs l) (fun _ ih l => List.rec (fun _ => []) (fun y r _ ih => y :: ih r) l ih) o
noncomputable def ln (l : List α) : Nat := List.rec 0 (fun _ _ ih => Nat.add ih 1) l
noncomputable def reps (n : Nat) (z : List α) : List α := Nat.rec [] (fun _ ih => apd z ih) n
theorem tk_eq (n : Nat) (l : List α) : tk n l = l.take n := by
  induction n generalizing l with
  | zero => rfl
  | succ n ih => cases l with
    | nil => simp [tk]
    | cons x r => show x :: tk n r = _; rw [ih]; simp
theorem dr_eq (n : Nat) (l : List α) : dr n l = l.drop n := by
  induction n generalizing l with
  | zero => rfl
  | succ n ih => cases l with
    | nil => simp [dr]
    | cons x r => show dr n r = _; rw [ih]; simp
theorem nth_eq (n : Nat) (l : List α) : nth n l = l[n]? := by
  induction n generalizing l with
  | zero => cases l <;> rfl
  | succ n ih => cases l with
    | nil => rfl
    | cons x r => show nth n r = _; rw [ih]; simp
theorem apd_eq (a b : List α) : apd a b = a ++ b := by
  induction a with
  | nil => rfl
  | cons x r ih => show x :: apd r b = _; rw [ih]; rfl
theorem ln_eq (l : List α) : ln l = l.length := by
  induction l with
  | nil => rfl
  | cons x r ih => show Nat.add (ln r) 1 = _; rw [ih]; rfl
theorem over_get (xs l : List α) (j : Nat) : (over xs l)[j]? = if j < l.length then (if j < xs.length then xs[j]? else l[j]?) else none := by
  induction xs generalizing l j with
  | nil =>
    show l[j]? = _
    by_cases h : j < l.length
    · simp [h]
    · rw [if_neg h]; exact List.getElem?_eq_none (by omega)
  | cons x r ih => cases l with
    | nil => simp [over]
    | cons y l =>
      show (x :: over r l)[j]? = _
      cases j with
      | zero => simp
      | succ j => simp only [List.getElem?_cons_succ, List.length_cons, Nat.add_lt_add_iff_right]; exact ih l j
theorem splice_get (o : Nat) (xs l : List α) (j : Nat) : (splice o xs l)[j]? = if j < l.length then (if o ≤ j ∧ j < o + xs.length then xs[j - o]? else l[j]?) else none := by
  induction o generalizing l j with
  | zero => show (over xs l)[j]? = _; rw [over_get]; simp
  | succ o ih => cases l with
    | nil => simp [splice]
    | cons y l =>
      show (y :: splice o xs l)[j]? = _
      cases j with
      | zero => simp
      | succ j =>
        simp only [List.getElem?_cons_succ, List.length_cons, Nat.add_lt_add_iff_right]
        rw [ih]
        by_cases h : j < l.length
        · rw [if_pos h, if_pos h]
          by_cases h2 : o ≤ j ∧ j < o + xs.length
          · rw [if_pos h2, if_pos (by omega)]; congr 1; omega
          · rw [if_neg h2, if_neg (by omega)]
        · rw [if_neg h, if_neg h]
theorem over_length (xs l : List α) : (over xs l).length = l.length := by
  induction xs generalizing l with
  | nil => rfl
  | cons x r ih => cases l with
    | nil => rfl
    | cons y l => show (x :: over r l).length = _; simp [ih]
theorem splice_length (o : Nat) (xs l : List α) : (splice o xs l).length = l.length := by
  induction o generalizing l with
  | zero => exact over_length xs l
  | succ o ih => cases l with
    | nil => rfl
    | cons y l => show (y :: splice o xs l).length = _; simp [ih]
theorem reps_length (n : Nat) (z : List α) : (reps n z).length = n * z.length := by
  induction n with
  | zero => rw [Nat.zero_mul]; rfl
  | succ n ih => show (apd z (reps n z)).length = _; rw [apd_eq, List.length_append, ih, Nat.succ_mul, Nat.add_comm]
theorem reps_get (n : Nat) (z : List α) (j : Nat) (h : j < n * z.length) : (reps n z)[j]? = z[j % z.length]? := by
  induction n generalizing j with
  | zero => simp at h
  | succ n ih =>
    show (apd z (reps n z))[j]? = _
    rw [apd_eq]
    by_cases hj : j < z.length
    · rw [List.getElem?_append_left hj, Nat.mod_eq_of_lt hj]
    · have h' : j - z.length < n * z.length := by
        have e : (n + 1) * z.length = n * z.length + z.length := Nat.succ_mul _ _
        omega
      rw [List.getElem?_append_right (by omega), ih _ h', ← Nat.mod_eq_sub_mod (by omega)]
end

inductive CO where
  | t (s : Sl)
  | c (v : AV)
noncomputable def ev1 (f : Fr AV) (x : CO) : AV := CO.rec (fun s f => s.get f) (fun v _ => v) x f
noncomputable def evs (f : Fr AV) (l : List CO) : List AV := List.rec [] (fun x _ ih => ev1 f x :: ih) l
noncomputable def evo (f : Fr AV) (x : Option CO) : Option AV := Option.rec none (fun x => some (ev1 f x)) x

noncomputable def ieq (a b : Int) : Bool := Int.rec (fun m b => Int.rec (fun n m => Nat.beq m n) (fun _ _ => false) b m) (fun m b => Int.rec (fun _ _ => false) (fun n m => Nat.beq m n) b m) a b
noncomputable def ilt (a b : Int) : Bool := Int.rec (fun m b => Int.rec (fun n m => Nat.ble (Nat.succ m) n) (fun _ _ => false) b m) (fun m b => Int.rec (fun _ _ => true) (fun n m => Nat.ble (Nat.succ n) m) b m) a b
theorem ieq_eq (a b : Int) : ieq a b = (a == b) := by
  cases a <;> cases b
  · show Nat.beq _ _ = _; rw [Bool.eq_iff_iff]; simp; omega
  · rw [Bool.eq_iff_iff]; simp [ieq]
  · rw [Bool.eq_iff_iff]; simp [ieq]
  · show Nat.beq _ _ = _; rw [Bool.eq_iff_iff]; simp
theorem ilt_eq (a b : Int) : ilt a b = decide (a < b) := by
  cases a <;> cases b
  · show Nat.ble _ _ = _; rw [Bool.eq_iff_iff]; simp; omega
  · rw [Bool.eq_iff_iff]; simp [ilt]; omega
  · rw [Bool.eq_iff_iff]; simp [ilt]; omega
  · show Nat.ble _ _ = _; rw [Bool.eq_iff_iff]; simp; omega
noncomputable def sfit (h n : Nat → Bool) (x : Int) : Bool := Int.rec (fun m h _ => h m) (fun m _ n => n m) x h n
noncomputable def fits (k : IntKind) : Int → Bool :=
  IntKind.rec (sfit (fun m => Nat.ble m 127) (fun m => Nat.ble m 127)) (sfit (fun m => Nat.ble m 32767) (fun m => Nat.ble m 32767)) (sfit (fun m => Nat.ble m 2147483647) (fun m => Nat.ble m 2147483647))
    (sfit (fun m => Nat.ble m 9223372036854775807) (fun m => Nat.ble m 9223372036854775807)) (sfit (fun m => Nat.ble m 255) (fun _ => false)) (sfit (fun m => Nat.ble m 65535) (fun _ => false))
    (sfit (fun m => Nat.ble m 4294967295) (fun _ => false)) (sfit (fun m => Nat.ble m 18446744073709551615) (fun _ => false)) k
noncomputable def wr (k : IntKind) (n : Int) : Int := br (fits k n) n (k.wrap n)
theorem wr_eq (k : IntKind) (n : Int) : wr k n = k.wrap n := by
  unfold wr
  cases h : fits k n with
  | false => rfl
  | true =>
    show n = _
    cases k <;> cases n <;> simp only [fits, sfit, Nat.ble_eq, Bool.false_eq_true] at h <;> simp only [IntKind.wrap, IntKind.bits, IntKind.signed] <;> simp <;> omega
noncomputable def keq (j k : IntKind) : Bool :=
  IntKind.rec (IntKind.rec true false false false false false false false) (IntKind.rec false true false false false false false false) (IntKind.rec false false true false false false false false) (IntKind.rec false false false true false false false false)
    (IntKind.rec false false false false true false false false) (IntKind.rec false false false false false true false false) (IntKind.rec false false false false false false true false) (IntKind.rec false false false false false false false true) j k
theorem keq_iff (j k : IntKind) : keq j k = true ↔ j = k := by cases j <;> cases k <;> simp [keq]
noncomputable def beqs (a b : List UInt8) : Bool :=
  List.rec (fun b => List.rec true (fun _ _ _ => false) b) (fun x _ ih b => List.rec (fun _ _ => false) (fun y s _ x ih => br (Nat.beq x.toNat y.toNat) (ih s) false) b x ih) a b
theorem beqs_eq (a b : List UInt8) : beqs a b = (a == b) := by
  induction a generalizing b with
  | nil => cases b <;> rfl
  | cons x a ih => cases b with
    | nil => rfl
    | cons y b =>
      show br (Nat.beq x.toNat y.toNat) (beqs a b) false = _
      rw [ih]
      cases h : Nat.beq x.toNat y.toNat with
      | true =>
        have : x = y := UInt8.toNat_inj.mp (Nat.eq_of_beq_eq_true h)
        subst this
        show (a == b) = _
        simp
      | false =>
        have : x ≠ y := fun e => by subst e; simp at h
        show false = _
        simp [this]
end Go.Vm
namespace Go.Vm
set_option linter.unusedVariables false

abbrev CallT := Id → List AV → St → R
abbrev OpF := CallT → Fr AV → St → R

noncomputable def AV.lay (v : AV) (k : List AV → R) : R := v.onCells (k [v]) k fun _ => .no
noncomputable def AV.cells (v : AV) : List AV := v.onCells [v] (fun cs => cs) (fun _ => [])
noncomputable def iadd (a b : Int) : Int := Int.rec (fun m b => Int.rec (fun n m => .ofNat (Nat.add m n)) (fun n m => Int.subNatNat m (Nat.succ n)) b m) (fun m b => Int.rec (fun n m => Int.subNatNat n (Nat.succ m)) (fun n m => .negSucc (Nat.succ (Nat.add m n))) b m) a b
noncomputable def ineg (a : Int) : Int := Int.rec (fun m => Nat.rec (.ofNat 0) (fun n _ => .negSucc n) m) (fun m => .ofNat (Nat.succ m)) a
theorem iadd_eq (a b : Int) : iadd a b = a + b := by cases a <;> cases b <;> rfl
theorem ineg_eq (a : Int) : ineg a = -a := by
  cases a with
  | ofNat m => cases m <;> rfl
  | negSucc m => rfl
noncomputable def AV.idx (v : AV) (n : Nat) (k : Nat → R) : R := v.onInt .no fun _ i => Int.rec (fun m n k => br (Nat.ble (Nat.succ m) n) (k m) .no) (fun _ _ _ => .no) i n k
noncomputable def bnd (x : Option AV) (y d : Nat) (k : Nat → R) : R := Option.rec (fun _ d k => k d) (fun v y _ k => v.idx (Nat.succ y) k) x y d k
noncomputable def wrap1 (agg : Bool) (sz : Nat) (l : List AV) (s : St) : R :=
  br agg (br (Nat.beq (ln (tk sz l)) sz) (.ok (.agg (tk sz l)) s) .no) (List.rec (fun _ => .no) (fun x _ _ s => .ok x s) l s)
noncomputable def AV.isNil (v : AV) : Bool := v.onNil false true

noncomputable def opMv (x : CO) : OpF := fun _ f s => .ok (ev1 f x) s
noncomputable def opMvs (x : CO) : OpF := fun _ f s => (ev1 f x).onStr .no fun l => .ok (.str l) s
noncomputable def opPick (c a b : CO) : OpF := fun _ f s => (ev1 f c).onBool .no fun t => .ok (br t (ev1 f a) (ev1 f b)) s
noncomputable def opBox (x : CO) : OpF := fun _ f s => (ev1 f x).lay fun l => s.alloc (.cells l) fun b s => .ok (.ptr b 0) s
noncomputable def opAlloc (z : List AV) : OpF := fun _ _ s => s.alloc (.cells z) fun b s => .ok (.ptr b 0) s
structure Part where
  off : Nat
  size : Nat
  x : CO
noncomputable def fill (f : Fr AV) (ps : List Part) : List AV → (List AV → R) → R :=
  List.rec (fun z k => k z) (fun p _ ih z k => Part.rec (fun o n x z k ih => (ev1 f x).lay fun l => br (Nat.beq (ln l) n) (br (Nat.ble (Nat.add o n) (ln z)) (ih (splice o l z) k) .no) .no) p z k ih) ps
noncomputable def opBuild (z : List AV) (ps : List Part) : OpF := fun _ f s => fill f ps z fun cs => .ok (.agg cs) s
noncomputable def opBlit (len : Nat) (z : List AV) (ps : List Part) : OpF := fun _ f s =>
  fill f ps (reps len z) fun cs => s.alloc (.cells cs) fun b s => .ok (.sl b 0 len len 0) s
noncomputable def opLoad (agg : Bool) (sz : Nat) (x : CO) : OpF := fun _ f s =>
  (ev1 f x).onPtr .no (fun b o => (s.obj b).onCells .no fun cs => wrap1 agg sz (dr o cs) s) fun cs => wrap1 agg sz cs s
noncomputable def opStore (sz : Nat) (x y : CO) : OpF := fun _ f s =>
  (ev1 f x).onPtr .no (fun b o => (s.obj b).onCells .no fun cs => (ev1 f y).lay fun l => br (Nat.beq (ln l) sz) (br (Nat.ble (Nat.add o sz) (ln cs)) (.ok undef (s.put b (.cells (splice o l cs)))) .no) .no) fun _ => .no
noncomputable def opNilck (x : CO) : OpF := fun _ f s => (ev1 f x).onNil3 (.ok (ev1 f x) s) .no
abbrev IntF := IntKind → Int → IntKind → Int → St → R
noncomputable def iAdd : IntF := fun j a k b s => br (keq j k) (.ok (.int j (wr j (iadd a b))) s) .no
noncomputable def iSub : IntF := fun j a k b s => br (keq j k) (.ok (.int j (wr j (iadd a (ineg b)))) s) .no
noncomputable def iMul : IntF := fun j a k b s => br (keq j k) (.ok (.int j (wr j (Int.mul a b))) s) .no
noncomputable def iQuo : IntF := fun j a k b s => br (keq j k) (br (ieq b 0) .no (.ok (.int j (wr j (a.tdiv b))) s)) .no
noncomputable def iRem : IntF := fun j a k b s => br (keq j k) (br (ieq b 0) .no (.ok (.int j (a.tmod b)) s)) .no
noncomputable def iAnd : IntF := fun j a k b s => br (keq j k) (.ok (.int j (j.wrap ((BitVec.ofInt j.bits a &&& BitVec.ofInt j.bits b).toNat : Int))) s) .no
noncomputable def iOr : IntF := fun j a k b s => br (keq j k) (.ok (.int j (j.wrap ((BitVec.ofInt j.bits a ||| BitVec.ofInt j.bits b).toNat : Int))) s) .no
noncomputable def iXor : IntF := fun j a k b s => br (keq j k) (.ok (.int j (j.wrap ((BitVec.ofInt j.bits a ^^^ BitVec.ofInt j.bits b).toNat : Int))) s) .no
noncomputable def iAndNot : IntF := fun j a k b s => br (keq j k) (.ok (.int j (j.wrap ((BitVec.ofInt j.bits a &&& ~~~BitVec.ofInt j.bits b).toNat : Int))) s) .no
noncomputable def iShl : IntF := fun j a _ b s => br (ilt b 0) .no (.ok (.int j (wr j (a * 2 ^ min b.toNat j.bits))) s)
noncomputable def iShr : IntF := fun j a _ b s => br (ilt b 0) .no (.ok (.int j (a.fdiv (2 ^ min b.toNat j.bits))) s)
noncomputable def iEql : IntF := fun j a k b s => br (keq j k) (.ok (.bool (ieq a b)) s) .no
noncomputable def iNeq : IntF := fun j a k b s => br (keq j k) (.ok (.bool (br (ieq a b) false true)) s) .no
noncomputable def iLss : IntF := fun j a k b s => br (keq j k) (.ok (.bool (ilt a b)) s) .no
noncomputable def iLeq : IntF := fun j a k b s => br (keq j k) (.ok (.bool (br (ilt b a) false true)) s) .no
noncomputable def iGtr : IntF := fun j a k b s => br (keq j k) (.ok (.bool (ilt b a)) s) .no
noncomputable def iGeq : IntF := fun j a k b s => br (keq j k) (.ok (.bool (br (ilt a b) false true)) s) .no
noncomputable def intBin : BinOp → IntF := BinOp.rec iAdd iSub iMul iQuo iRem iAnd iOr iXor iShl iShr iAndNot iEql iNeq iLss iLeq iGtr iGeq
abbrev StrF := List UInt8 → List UInt8 → St → R
noncomputable def sNo : StrF := fun _ _ _ => .no
noncomputable def sAdd : StrF := fun a b s => br (Nat.ble (Nat.add (ln a) (ln b)) 9223372036854775807) (.ok (.str (apd a b)) s) .no
noncomputable def sEql : StrF := fun a b s => .ok (.bool (beqs a b)) s
noncomputable def sNeq : StrF := fun a b s => .ok (.bool (br (beqs a b) false true)) s
noncomputable def sLss : StrF := fun a b s => .ok (.bool (Op.bytesLess a b)) s
noncomputable def sLeq : StrF := fun a b s => .ok (.bool (Op.bytesLess a b || beqs a b)) s
noncomputable def sGtr : StrF := fun a b s => .ok (.bool (!(Op.bytesLess a b || beqs a b))) s
noncomputable def sGeq : StrF := fun a b s => .ok (.bool (!Op.bytesLess a b)) s
noncomputable def strBin : BinOp → StrF := BinOp.rec sAdd sNo sNo sNo sNo sNo sNo sNo sNo sNo sNo sEql sNeq sLss sLeq sGtr sGeq
noncomputable def opBin (op : BinOp) (x y : CO) : OpF := fun _ f s =>
  (ev1 f x).onInt ((ev1 f x).onStr .no fun a => (ev1 f y).onStr .no fun b => strBin op a b s) fun j a => (ev1 f y).onInt .no fun k b => intBin op j a k b s
noncomputable def opBeq (neg : Bool) (x y : CO) : OpF := fun _ f s => (ev1 f x).onBool .no fun a => (ev1 f y).onBool .no fun b => .ok (.bool (br neg (br a (br b false true) b) (br a b (br b false true)))) s
inductive FK where
  | num | str | bool
inductive NK where
  | sl | ptr | map | fn | ifc
  | agg (l : List FK)
noncomputable def AV.isA (v : AV) : NK → Bool :=
  NK.rec (v.onIsSl false true) (v.onIsPtr false true) (v.onIsMap false true) (v.onIsFn false true) (v.onIsIfc false true) (fun _ => false)
noncomputable def nilNeq (neg : Bool) (k : NK) (x y : AV) (s : St) : R :=
  br (x.isA k) (br (y.isA k) (br x.isNil (.ok (.bool (br neg (br y.isNil false true) y.isNil)) s) (br y.isNil (.ok (.bool neg) s) .no)) .no) .no
noncomputable def cellEq (c : FK) (x y : AV) (k : Bool → R) : R :=
  FK.rec (motive := fun _ => R) (x.onInt .no fun j p => y.onInt .no fun i q => br (keq j i) (k (ieq p q)) .no) (x.onStr .no fun p => y.onStr .no fun q => k (beqs p q)) (x.onBool .no fun p => y.onBool .no fun q => k (br p q (br q false true))) c
noncomputable def cellsEq (c : List FK) : List AV → List AV → (Bool → R) → R :=
  List.rec (motive := fun _ => List AV → List AV → (Bool → R) → R) (fun _ _ k => k true) (fun c _ ih l m k => List.rec (motive := fun _ => R) .no (fun x l _ => List.rec (motive := fun _ => R) .no (fun y m _ => cellEq c x y fun t => ih l m fun u => k (br t u false)) m) l) c
noncomputable def aggNeq (neg : Bool) (c : List FK) (x y : AV) (s : St) : R := x.onAgg .no fun l => y.onAgg .no fun m => cellsEq c l m fun t => .ok (.bool (br neg (br t false true) t)) s
noncomputable def opNeq (neg : Bool) (k : NK) (x y : CO) : OpF := fun _ f s =>
  NK.rec (motive := fun _ => R) (nilNeq neg .sl (ev1 f x) (ev1 f y) s) (nilNeq neg .ptr (ev1 f x) (ev1 f y) s) (nilNeq neg .map (ev1 f x) (ev1 f y) s) (nilNeq neg .fn (ev1 f x) (ev1 f y) s) (nilNeq neg .ifc (ev1 f x) (ev1 f y) s) (fun c => aggNeq neg c (ev1 f x) (ev1 f y) s) k
noncomputable def opNeg (x : CO) : OpF := fun _ f s => (ev1 f x).onInt .no fun k n => .ok (.int k (wr k (ineg n))) s
noncomputable def opNot (x : CO) : OpF := fun _ f s => (ev1 f x).onBool .no fun b => .ok (.bool (br b false true)) s
noncomputable def opConv (k : IntKind) (x : CO) : OpF := fun _ f s => (ev1 f x).onInt .no fun _ n => .ok (.int k (wr k n)) s
noncomputable def byteCells (l : List UInt8) : List AV := List.rec [] (fun c _ ih => .int .u8 (.ofNat c.toNat) :: ih) l
noncomputable def opToBytes (x : CO) : OpF := fun _ f s => (ev1 f x).onStr .no fun l => .ok (.ts (byteCells l) (ln l) (ln l) false) s
noncomputable def cellBytes (l : List AV) (k : List UInt8 → R) : R :=
  List.rec (fun k => k []) (fun v _ ih k => v.onInt .no fun j n => br (keq j .u8) (ih fun r => k (UInt8.ofNat n.toNat :: r)) .no) l k
noncomputable def opToStr (x : CO) : OpF := fun _ f s =>
  (ev1 f x).onSl .no (.ok (.str []) s) (fun b o l _ _ => (s.obj b).onCells .no fun cs => br (Nat.ble (Nat.add o l) (ln cs)) (cellBytes (tk l (dr o cs)) fun r => .ok (.str r) s) .no) fun cs l _ _ => br (Nat.beq l (ln cs)) (cellBytes cs fun r => .ok (.str r) s) .no
noncomputable def opMkif (t : TypeId) (x : CO) : OpF := fun _ f s => .ok (.ifc t (ev1 f x)) s
noncomputable def opMkfn (g : Id) (a b : List CO) : OpF := fun _ f s => .ok (.fn g (evs f a) (evs f b)) s
noncomputable def opMkmap : OpF := fun _ _ s => s.alloc (.map []) fun b s => .ok (.map b) s
def limit : Nat := 140737488355328
noncomputable def opMksl (bytes : Nat) (z : List AV) (l c : CO) : OpF := fun _ f s =>
  (ev1 f l).idx limit fun l => (ev1 f c).idx limit fun c => br (Nat.ble l c) (br (Nat.ble (Nat.mul c bytes) limit) (s.alloc (.cells (reps c z)) fun b s => .ok (.sl b 0 l c 0) s) .no) .no
noncomputable def opSslice (x : CO) (lo hi : Option CO) : OpF := fun _ f s =>
  (ev1 f x).onStr .no fun l => bnd (evo f hi) (ln l) (ln l) fun h => bnd (evo f lo) h 0 fun lo => .ok (.str (dr lo (tk h l))) s
noncomputable def opSlice (sz : Nat) (x : CO) (lo hi mx : Option CO) : OpF := fun _ f s =>
  (ev1 f x).onSl .no
    (bnd (evo f mx) 0 0 fun m => bnd (evo f hi) m 0 fun h => bnd (evo f lo) h 0 fun _ => .ok .nils s)
    (fun b o len cap ex => bnd (evo f mx) cap cap fun m => bnd (evo f hi) m len fun h => bnd (evo f lo) h 0 fun l =>
      br (br (Nat.beq ex 0) true (br mx.isSome true (Nat.ble (Nat.succ l) cap)))
        (br (br (Nat.beq ex 0) true (br mx.isSome true (Nat.beq ex sz))) (.ok (.sl b (br (Nat.beq m l) o (Nat.add o (Nat.mul l sz))) (Nat.sub h l) (Nat.sub m l) (br mx.isSome 0 ex)) s) .no)
        (.ok (.ts [] 0 0 false) s))
    fun cs len cap ex => bnd (evo f mx) cap cap fun m => bnd (evo f hi) (Nat.min m len) len fun h => bnd (evo f lo) h 0 fun l =>
      .ok (.ts (dr (Nat.mul l sz) (tk (Nat.mul h sz) cs)) (Nat.sub h l) (Nat.sub m l) (br ex true mx.isSome)) s
noncomputable def opFaddr (off : Nat) (x : CO) : OpF := fun _ f s => (ev1 f x).onPtr .no (fun b o => .ok (.ptr b (Nat.add o off)) s) fun cs => .ok (.tp (dr off cs)) s
noncomputable def opField (agg : Bool) (off sz : Nat) (x : CO) : OpF := fun _ f s => (ev1 f x).onAgg .no fun cs => wrap1 agg sz (dr off cs) s
noncomputable def opIaddr (sz : Nat) (x i : CO) : OpF := fun _ f s =>
  (ev1 f x).onSl .no .no (fun b o len _ _ => (ev1 f i).idx len fun m => .ok (.ptr b (Nat.add o (Nat.mul m sz))) s) fun cs len _ _ => (ev1 f i).idx len fun m => .ok (.tp (dr (Nat.mul m sz) cs)) s
noncomputable def opPaddr (n sz : Nat) (x i : CO) : OpF := fun _ f s => (ev1 f x).onPtr .no (fun b o => (ev1 f i).idx n fun m => .ok (.ptr b (Nat.add o (Nat.mul m sz))) s) fun _ => .no
noncomputable def opSidx (x i : CO) : OpF := fun _ f s => (ev1 f x).onStr .no fun l => (ev1 f i).idx (ln l) fun m => Option.rec .no (fun c => .ok (.int .u8 (.ofNat (UInt8.toNat c))) s) (nth m l)
noncomputable def opAidx (agg : Bool) (len sz : Nat) (x i : CO) : OpF := fun _ f s => (ev1 f x).onAgg .no fun cs => (ev1 f i).idx len fun m => wrap1 agg sz (dr (Nat.mul m sz) cs) s
noncomputable def keyEq (a b : AV) (d y n : R) : R :=
  a.onInt (a.onStr d fun p => b.onStr d fun q => br (beqs p q) y n) fun j p => b.onInt d fun k q => br (keq j k) (br (ieq p q) y n) d
noncomputable def mget (es : List (AV × AV)) (k : AV) (z : R) (yes : AV → R) : R := List.rec z (fun e _ ih => Prod.rec (fun a v ih => keyEq k a .no (yes v) ih) e ih) es
noncomputable def mput (es : List (AV × AV)) (k v : AV) (c : List (AV × AV) → R) : R :=
  List.rec (fun c => c [(k, v)]) (fun e r ih c => Prod.rec (fun a v' ih c => keyEq k a .no (c ((k, v) :: r)) (ih fun r => c ((a, v') :: r))) e ih c) es c
noncomputable def looked (ok : Bool) (b : Bool) (v : AV) (s : St) : R := br ok (.ok (.tup [v, .bool b]) s) (.ok v s)
noncomputable def isKey (str : Bool) (k : AV) (r : R) : R := br str (k.onStr .no fun _ => r) (k.onInt .no fun _ _ => r)
noncomputable def opLookup (str : Bool) (z : AV) (x k : CO) (ok : Bool) : OpF := fun _ f s => isKey str (ev1 f k)
  ((ev1 f x).onMap .no (looked ok false z s) fun b => (s.obj b).onMap .no fun es => mget es (ev1 f k) (looked ok false z s) fun v => looked ok true v s)
noncomputable def opMupd (str : Bool) (x k v : CO) : OpF := fun _ f s => isKey str (ev1 f k)
  ((ev1 f x).onMap .no .no fun b => (s.obj b).onMap .no fun es => mput es (ev1 f k) (ev1 f v) fun es => .ok undef (s.put b (.map es)))
noncomputable def opExt (x : CO) (i : Nat) : OpF := fun _ f s => (ev1 f x).onTup .no fun vs => Option.rec .no (fun v => .ok v s) (nth i vs)
noncomputable def opCallf (g : Id) (as : List CO) : OpF := fun call f s => call g (evs f as) s
noncomputable def opCallv (g : CO) (as : List CO) : OpF := fun call f s => (ev1 f g).onFn .no fun g a b => call g (apd a (apd (evs f as) b)) s
noncomputable def opLens (x : CO) : OpF := fun _ f s => (ev1 f x).onStr .no fun l => .ok (.int .i64 (.ofNat (ln l))) s
noncomputable def opLenm (x : CO) : OpF := fun _ f s => (ev1 f x).onMap .no (.ok (.int .i64 0) s) fun b => (s.obj b).onMap .no fun es => .ok (.int .i64 (.ofNat (ln es))) s
noncomputable def opLen (x : CO) : OpF := fun _ f s =>
  (ev1 f x).onSl .no (.ok (.int .i64 0) s) (fun _ _ l _ _ => .ok (.int .i64 (.ofNat l)) s) fun _ l _ _ => .ok (.int .i64 (.ofNat l)) s
noncomputable def opCap (x : CO) : OpF := fun _ f s =>
  (ev1 f x).onSl .no (.ok (.int .i64 0) s) (fun _ _ _ c ex => br (Nat.beq ex 0) (.ok (.int .i64 (.ofNat c)) s) .no) fun _ _ c ex => br ex (.ok (.int .i64 (.ofNat c)) s) .no
noncomputable def srcOf (s : St) (sz : Nat) (y : AV) (k : Nat → List AV → R) : R :=
  y.onSl (y.onStr .no fun l => br (Nat.beq sz 1) (k (ln l) (byteCells l)) .no) (k 0 [])
    (fun b o l _ _ => (s.obj b).onCells .no fun cs => br (Nat.ble (Nat.add o (Nat.mul l sz)) (ln cs)) (k l (tk (Nat.mul l sz) (dr o cs))) .no)
    fun cs l _ _ => br (Nat.ble (Nat.mul l sz) (ln cs)) (k l (tk (Nat.mul l sz) cs)) .no
noncomputable def grown (s : St) (sz bytes m : Nat) (cs : List AV) : R :=
  br (Nat.ble (Nat.mul m bytes) limit) (br (Nat.ble m limit) (s.alloc (.cells cs) fun b s => .ok (.sl b 0 m m sz) s) .no) .no
noncomputable def opApp (sz bytes : Nat) (x y : CO) : OpF := fun _ f s =>
  srcOf s sz (ev1 f y) fun n new =>
  (ev1 f x).onSl .no
    (br (Nat.beq n 0) (.ok .nils s) (grown s sz bytes n new))
    (fun b o len cap ex => (s.obj b).onCells .no fun cs => br (Nat.ble (Nat.add o (Nat.mul cap sz)) (ln cs))
      (br (Nat.ble (Nat.add len n) cap) (.ok (.sl b o (Nat.add len n) cap ex) (s.put b (.cells (splice (Nat.add o (Nat.mul len sz)) new cs))))
        (br (Nat.beq ex 0) (grown s sz bytes (Nat.add len n) (apd (tk (Nat.mul len sz) (dr o cs)) new))
          (br (Nat.beq ex sz) (grown (s.put b .dead) sz bytes (Nat.add len n) (apd (tk (Nat.mul len sz) (dr o cs)) new)) .no))) .no)
    fun cs len cap ex => br (Nat.beq n 0) (.ok (ev1 f x) s)
      (br ex (br (Nat.ble (Nat.succ cap) (Nat.add len n)) (br (Nat.beq (ln cs) (Nat.mul len sz)) (grown s sz bytes (Nat.add len n) (apd cs new)) .no) .no) .no)
noncomputable def best (mx : Bool) (a b : Int) : Int := br mx (br (ilt a b) b a) (br (ilt b a) b a)
noncomputable def opMm (mx : Bool) (x : CO) (r : List CO) : OpF := fun _ f s =>
  List.rec (fun v => .ok v s) (fun y _ ih v => v.onInt .no fun j a => (ev1 f y).onInt .no fun k b => ih (.int j (best mx a b))) r (ev1 f x)

inductive COp where
  | mv (x : CO)
  | mvs (x : CO)
  | pick (c a b : CO)
  | box (x : CO)
  | alloc (z : List AV)
  | build (z : List AV) (ps : List Part)
  | blit (len : Nat) (z : List AV) (ps : List Part)
  | load (agg : Bool) (sz : Nat) (x : CO)
  | store (sz : Nat) (x y : CO)
  | nilck (x : CO)
  | bin (op : BinOp) (x y : CO)
  | beq (neg : Bool) (x y : CO)
  | nileq (neg : Bool) (k : NK) (x y : CO)
  | neg (x : CO)
  | not (x : CO)
  | conv (k : IntKind) (x : CO)
  | tobytes (x : CO)
  | tostr (x : CO)
  | mkif (t : TypeId) (x : CO)
  | mkfn (g : Id) (a b : List CO)
  | mkmap
  | mksl (bytes : Nat) (z : List AV) (l c : CO)
  | slice (sz : Nat) (x : CO) (lo hi mx : Option CO)
  | sslice (x : CO) (lo hi : Option CO)
  | faddr (off : Nat) (x : CO)
  | field (agg : Bool) (off sz : Nat) (x : CO)
  | iaddr (sz : Nat) (x i : CO)
  | sidx (x i : CO)
  | aidx (agg : Bool) (len sz : Nat) (x i : CO)
  | lookup (str : Bool) (z : AV) (x k : CO) (ok : Bool)
  | mupd (str : Bool) (x k v : CO)
  | ext (x : CO) (i : Nat)
  | callf (g : Id) (as : List CO)
  | callv (g : CO) (as : List CO)
  | lens (x : CO)
  | lenm (x : CO)
  | len (x : CO)
  | cap (x : CO)
  | app (sz bytes : Nat) (x y : CO)
  | mm (mx : Bool) (x : CO) (r : List CO)
  | paddr (n sz : Nat) (x i : CO)
noncomputable def exop : COp → OpF :=
  COp.rec opMv opMvs opPick opBox opAlloc opBuild opBlit opLoad opStore opNilck opBin opBeq opNeq opNeg opNot opConv opToBytes opToStr opMkif opMkfn opMkmap opMksl opSlice opSslice opFaddr opField opIaddr opSidx opAidx opLookup opMupd opExt opCallf opCallv opLens opLenm opLen opCap opApp opMm opPaddr

section
variable (P : Program)
noncomputable def valAt1 : Value → Option AV
  | .bool b => some (.bool b)
  | .int k n => some (.int k n)
  | .string s => some (.str s.data.toList)
  | .pointer none => some .nilp
  | .slice none 0 0 => some .nils
  | .map none => some .nilm
  | .nilFunc => some .nilf
  | .nilIface => some .nili
  | _ => none
noncomputable def valAt : Value → Option AV
  | .agg cs => (cs.toList.mapM valAt1).map .agg
  | v => valAt1 v
noncomputable def cod : Operand → Option CO
  | .tmp t => if t < 256 then some (.t (.ofNat t)) else none
  | .const v => (valAt v).map .c
  | .func f => if f < 65536 then some (.c (.fn (.ofNat f) [] [])) else none
  | .global _ => none
noncomputable def codo : Option Operand → Option (Option CO)
  | none => some none
  | some x => (cod x).map some
noncomputable def zeroAt (t : TypeId) : Option (List AV) := do
  let i ← P.info? t
  let z ← i.zero
  let v ← valAt z
  if v.cells.length = i.size ∧ 0 < i.size then some v.cells else none
noncomputable def aggAt (t : TypeId) : Option Bool := do
  match ← P.underlying t with
  | .struct _ | .array _ _ => some true
  | _ => some false
noncomputable def sizeAt (t : TypeId) : Option Nat := (P.info? t).map (·.size)
noncomputable def partsAt (place : Nat → Option (Nat × Nat)) : List (Nat × Operand) → Option (List Part)
  | [] => some []
  | (i, x) :: r => do
    let p ← place i
    let c ← cod x
    let l ← partsAt place r
    some (⟨p.1, p.2, c⟩ :: l)
inductive Cmp where
  | num | bool
  | nil (k : NK)
  | flat (l : List FK)
noncomputable def flatFs : List Field → Nat → Option (List FK)
  | [], _ => some []
  | f :: l, n => if (f.name != "_" && f.offset == n) = true then do
      let k ← (match P.underlying f.type with | some (.int _) => some FK.num | some .string => some FK.str | some .bool => some FK.bool | _ => none)
      let r ← flatFs l (n + 1)
      some (k :: r)
    else none
noncomputable def cmpAt (t : TypeId) : Option Cmp := do
  match ← P.underlying t with
  | .int _ | .string => some .num
  | .bool => some .bool
  | .slice _ => some (.nil .sl)
  | .pointer _ => some (.nil .ptr)
  | .map _ _ => some (.nil .map)
  | .func _ _ _ => some (.nil .fn)
  | .interface _ => some (.nil .ifc)
  | .struct fs => if (!P.stoodInHeld t && !P.eqGuardType P.depth t) = true then (flatFs P fs.toList 0).map .flat else none
  | _ => none
noncomputable def isConst : Operand → Bool
  | .const _ => true
  | _ => false
noncomputable def copBin (op : BinOp) (t : TypeId) (x y : Operand) : Option COp := do
  let a ← cod x
  let b ← cod y
  match ← cmpAt P t with
  | .num => some (.bin op a b)
  | .bool => match op with | .eql => some (.beq false a b) | .neq => some (.beq true a b) | _ => none
  | .nil k => if isConst x || isConst y then (match op with | .eql => some (.nileq false k a b) | .neq => some (.nileq true k a b) | _ => none) else none
  | .flat l => match op with | .eql => some (.nileq false (.agg l) a b) | .neq => some (.nileq true (.agg l) a b) | _ => none
noncomputable def copConv (s d : TypeId) (x : Operand) : Option COp := do
  let a ← cod x
  match ← P.underlying s, ← P.underlying d with
  | .int _, .int k => some (.conv k a)
  | .string, .string => some (.mvs a)
  | .string, .slice e => match ← P.underlying e with | .int .u8 => some (.tobytes a) | _ => none
  | .slice e, .string => match ← P.underlying e with | .int .u8 => some (.tostr a) | _ => none
  | _, _ => none
noncomputable def copCall (c : Call) : Option COp := do
  match c.callee with
  | .value (.func f) => if f < 65536 then some (.callf (.ofNat f) (← c.args.toList.mapM cod)) else none
  | .value x => some (.callv (← cod x) (← c.args.toList.mapM cod))
  | .builtin .len => do
    match c.args.toList, c.argTypes.toList with
    | [x], [t] => match ← P.underlying t with | .string => some (.lens (← cod x)) | .slice _ => some (.len (← cod x)) | .map _ _ => some (.lenm (← cod x)) | _ => none
    | _, _ => none
  | .builtin .cap => do
    match c.args.toList, c.argTypes.toList with
    | [x], [t] => match ← P.underlying t with | .slice _ => some (.cap (← cod x)) | _ => none
    | _, _ => none
  | .builtin .max => match c.args.toList with | x :: r => some (.mm true (← cod x) (← r.mapM cod)) | [] => none
  | .builtin .min => match c.args.toList with | x :: r => some (.mm false (← cod x) (← r.mapM cod)) | [] => none
  | .builtin .append => do
    match c.args.toList, c.argTypes.toList with
    | [x, y], [t, u] =>
      match ← P.underlying t with
      | .slice e =>
        let i ← P.info? e
        let z ← zeroAt P e
        match ← P.underlying u with
        | .slice _ => some (.app i.size i.bytes (← cod x) (← cod y))
        | .string => if i.size = 1 then some (.app i.size i.bytes (← cod x) (← cod y)) else none
        | _ => none
      | _ => none
    | _, _ => none
  | _ => none
noncomputable def cop (o : Op) : Option COp :=
  match o with
  | .move x | .assign x => (cod x).map .mv
  | .pick c a b => do some (.pick (← cod c) (← cod a) (← cod b))
  | .alloc e => (zeroAt P e).map .alloc
  | .box _ v => (cod v).map .box
  | .build t ps => do
    let z ← zeroAt P t
    match ← P.underlying t with
    | .struct fs => do
      let places ← fs.toList.mapM fun f => (P.info? f.type).map fun i => (f.offset, i.size)
      some (.build z (← partsAt (places.toArray[·]?) ps.toList))
    | .array _ e => do
      let sz ← sizeAt P e
      some (.build z (← partsAt (fun i => some (i * sz, sz)) ps.toList))
    | _ => none
  | .buildSlice t len ps => do
    match ← P.underlying t with
    | .slice e => do
      let sz ← sizeAt P e
      let z ← zeroAt P e
      if len * sz ≤ 16777216 then some (.blit len z (← partsAt (fun i => some (i * sz, sz)) ps.toList)) else none
    | _ => none
  | .load t x => do some (.load (← aggAt P t) (← sizeAt P t) (← cod x))
  | .store t x y => do some (.store (← sizeAt P t) (← cod x) (← cod y))
  | .nilCheck x => (cod x).map .nilck
  | .binOp op t x y _ => copBin P op t x y
  | .unOp .neg _ x => (cod x).map .neg
  | .unOp .not _ x => (cod x).map .not
  | .convert s d x => copConv P s d x
  | .makeInterface t x => do
    match ← P.underlying t with
    | .interface _ => none
    | _ => some (.mkif t (← cod x))
  | .makeFunc (.func f) a b => do if f < 65536 then some (.mkfn (.ofNat f) (← a.toList.mapM cod) (← b.toList.mapM cod)) else none
  | .makeMap _ none => some .mkmap
  | .makeSlice t l c => do
    match ← P.underlying t with
    | .slice e => do
      let i ← P.info? e
      some (.mksl i.bytes (← zeroAt P e) (← cod l) (← cod c))
    | _ => none
  | .slice t x lo hi mx => do
    match ← P.underlying t with
    | .slice e => do
      let sz ← sizeAt P e
      if mx.isSome && !hi.isSome then none else some (.slice sz (← cod x) (← codo lo) (← codo hi) (← codo mx))
    | .string => if mx.isSome then none else some (.sslice (← cod x) (← codo lo) (← codo hi))
    | _ => none
  | .fieldAddr s x i => do
    match ← P.underlying s with
    | .struct fs => do
      let f ← fs[i]?
      let sz ← sizeAt P f.type
      if sz = 0 then none else some (.faddr f.offset (← cod x))
    | _ => none
  | .field s x i => do
    match ← P.underlying s with
    | .struct fs => do
      let f ← fs[i]?
      some (.field (← aggAt P f.type) f.offset (← sizeAt P f.type) (← cod x))
    | _ => none
  | .indexAddr t x i => do
    match ← P.underlying t with
    | .slice e => do some (.iaddr (← sizeAt P e) (← cod x) (← cod i))
    | .array n e => do some (.paddr n (← sizeAt P e) (← cod x) (← cod i))
    | _ => none
  | .index t x i => do
    match ← P.underlying t with
    | .string => some (.sidx (← cod x) (← cod i))
    | .array n e => some (.aidx (← aggAt P e) n (← sizeAt P e) (← cod x) (← cod i))
    | _ => none
  | .lookup t x k ok => do
    match ← P.underlying t with
    | .map kt e => do
      let i ← P.info? e
      let z ← i.zero
      let v ← valAt z
      match ← P.underlying kt with
      | .int _ => some (.lookup false v (← cod x) (← cod k) ok)
      | .string => some (.lookup true v (← cod x) (← cod k) ok)
      | _ => none
    | _ => none
  | .mapUpdate t m k v => do
    match ← P.underlying t with
    | .map kt _ => do
      match ← P.underlying kt with
      | .int _ => some (.mupd false (← cod m) (← cod k) (← cod v))
      | .string => some (.mupd true (← cod m) (← cod k) (← cod v))
      | _ => none
    | _ => none
  | .extract x i => do some (.ext (← cod x) i)
  | .call c => copCall P c
  | _ => none
end
end Go.Vm
namespace Go.Vm
set_option linter.unusedVariables false

inductive CG where
  | none
  | g (s : Sl) (want : Bool)
inductive CD where
  | none
  | d (s : Sl)
inductive CR where
  | mk (d : CD) (op : COp) (g : CG)
inductive Kind where
  | quiet | alloc | read | mut
noncomputable def COp.kind : COp → Kind
  | .box _ | .alloc _ | .blit _ _ _ | .mkmap | .mksl _ _ _ _ => .alloc
  | .load _ _ _ | .tostr _ | .lookup _ _ _ _ _ | .lenm _ => .read
  | .store _ _ _ | .mupd _ _ _ _ | .callf _ _ | .callv _ _ | .app _ _ _ _ => .mut
  | _ => .quiet
inductive DR where
  | mk (i : Nat) (pre : Nat) (kind : Kind) (o : CR)
inductive CC where
  | skip
  | region (ops : List CR)
  | drawn (ops : List DR)
  | seq (a b : CC)
  | cond (c : CO) (a b : CC)
  | block (id : Nat) (c : CC)
  | loop (c : CC)
  | exit (id : Nat)
  | ret
inductive Res where
  | tmp (s : Sl)
  | cell (s : Sl) (agg : Bool) (sz : Nat)
inductive CF where
  | bad
  | mk (nt : Nat) (res : List Res) (body : CC)

noncomputable def putD (d : CD) (v : AV) (f : Fr AV) : Fr AV := CD.rec (fun _ f => f) (fun s v f => s.set v f) d v f
noncomputable def wanted (g : CG) (f : Fr AV) : Bool := CG.rec (fun _ => true) (fun s w f => (s.get f).onBool false fun b => br w b (br b false true)) g f
noncomputable def exOne (call : CallT) (o : CR) (ih : Fr AV → St → RC) (f : Fr AV) (s : St) : RC :=
  CR.rec (fun d op g ih f s => br (wanted g f) ((exop op call f s).on .no fun v s => ih (putD d v f) s) (ih (putD d undef f) s)) o ih f s
noncomputable def exops (call : CallT) (l : List CR) : Fr AV → St → RC := List.rec (fun f s => .nor f s) (fun o _ ih => exOne call o ih) l

structure Rd where
  i : Nat
  f : Fr AV
  op : COp
  v : AV
structure Wr where
  i : Nat
  h : Tab AO
structure Pd where
  i : Nat
  b : Id
  o : AO
noncomputable def noCall : CallT := fun _ _ _ => .no
noncomputable def like : AV → AV → Bool
  | .bool a, .bool b => a == b
  | .int j a, .int k b => keq j k && a == b
  | .str a, .str b => a == b
  | .nilp, .nilp | .nils, .nils | .nilm, .nilm | .nilf, .nilf | .nili, .nili => true
  | .ptr a n, .ptr b m => decide (a = b) && n == m
  | .sl a n l c x, .sl b m k d y => decide (a = b) && n == m && l == k && c == d && x == y
  | .map a, .map b => decide (a = b)
  | .agg l, .agg m => likes l m
  | .tup l, .tup m => likes l m
  | .ts l n c x, .ts m k d y => likes l m && n == k && c == d && x == y
  | .tp l, .tp m => likes l m
  | .ifc t a, .ifc u b => t == u && like a b
  | .fn a l m, .fn b k n => decide (a = b) && likes l k && likes m n
  | _, _ => false
where likes : List AV → List AV → Bool
  | [], [] => true
  | a :: l, b :: m => like a b && likes l m
  | _, _ => false
noncomputable def again (h : Tab AO) (n : Id) (f : Fr AV) (op : COp) (v : AV) : Bool := (exop op noCall f (.mk h n)).on false fun u _ => like u v
noncomputable def bit (m i : Nat) : Bool := Nat.testBit m i
noncomputable def readsOk (pre : Nat) (h : Tab AO) (n : Id) : List Rd → Bool
  | [] => true
  | r :: l => (bit pre r.i || again h n r.f r.op r.v) && readsOk pre h n l
noncomputable def writesOk (pre : Nat) (n : Id) (f : Fr AV) (op : COp) (v : AV) : List Wr → Bool
  | [] => true
  | w :: l => (bit pre w.i || again w.h n f op v) && writesOk pre n f op v l
noncomputable def allPre (pre : Nat) : List Nat → Bool
  | [] => true
  | i :: l => bit pre i && allPre pre l
noncomputable def flush : List Pd → Tab AO → Tab AO
  | [], h => h
  | p :: l, h => flush l (p.b.set p.o h)
noncomputable def exkind (call : CallT) (rest : Fr AV → Tab AO → Id → List Pd → List Rd → List Wr → RC) (i pre : Nat) (d : CD) (op : COp) (b : Id) (f : Fr AV) (h : Tab AO) (n : Id) (ps : List Pd) (rs : List Rd) (ws : List Wr) : Kind → RC
  | .quiet => (exop op noCall f .empty).on .no fun v _ => rest (putD d v f) h n ps rs ws
  | .alloc => (exop op noCall f (.mk (.rep .dead) b)).on .no fun v s => rest (putD d v f) h n (⟨i, b, b.get s.h⟩ :: ps) rs ws
  | .read => (exop op noCall f (.mk h n)).on ((exop op noCall f (.mk (flush (ps.filter fun p => bit pre p.i) (.rep .dead)) n)).on .no fun v _ => rest (putD d v f) h n ps (⟨i, f, op, v⟩ :: rs) ws) fun v _ => br (writesOk pre n f op v ws) (rest (putD d v f) h n ps (⟨i, f, op, v⟩ :: rs) ws) .no
  | .mut => br (allPre pre (ws.map (·.i)))
      ((exop op call f (.mk (flush (ps.filter fun p => bit pre p.i) h) n)).on .no fun v s => br (readsOk pre s.h s.n rs) (rest (putD d v f) s.h s.n (ps.filter fun p => !bit pre p.i) rs (⟨i, h⟩ :: ws)) .no) .no
noncomputable def exdraw (call : CallT) : List DR → Id → Fr AV → Tab AO → Id → List Pd → List Rd → List Wr → RC
  | [], _, f, h, n, ps, _, _ => .nor f (.mk (flush ps h) n)
  | .mk i pre k (.mk d op g) :: l, b, f, h, n, ps, rs, ws =>
    b.up .no fun b' => br (wanted g f) (exkind call (exdraw call l b') i pre d op b f h n ps rs ws k) (exdraw call l b' (putD d undef f) h n ps rs ws)
noncomputable def ups : Nat → Id → (Id → RC) → RC
  | 0, n, k => k n
  | m + 1, n, k => n.up .no fun n => ups m n k
noncomputable def exdrawn (call : CallT) (l : List DR) (f : Fr AV) (s : St) : RC := ups l.length s.n fun n => exdraw call l s.n f s.h n [] [] []

noncomputable def seqK (k : Fr AV → St → RC) (r : RC) : RC := r.on .no k .exit .ret
noncomputable def blockK (id : Nat) (r : RC) : RC := r.on .no .nor (fun i f s => br (Nat.beq i id) (.nor f s) (.exit i f s)) .ret
noncomputable def iter (body : Fr AV → St → RC) (n : Nat) : Fr AV → St → RC := Nat.rec (fun _ _ => .no) (fun _ ih f s => seqK ih (body f s)) n
noncomputable def cSeq (a b : Fr AV → St → RC) : Fr AV → St → RC := fun f s => seqK b (a f s)
noncomputable def cCond (c : CO) (a b : Fr AV → St → RC) : Fr AV → St → RC := fun f s => (ev1 f c).onBool .no fun t => br t (a f s) (b f s)
noncomputable def cBlock (id : Nat) (a : Fr AV → St → RC) : Fr AV → St → RC := fun f s => blockK id (a f s)
noncomputable def excode (call : CallT) (n : Nat) (c : CC) : Fr AV → St → RC :=
  CC.rec (fun f s => .nor f s) (fun ops => exops call ops) (fun ops => exdrawn call ops) (fun _ _ iha ihb => cSeq iha ihb) (fun c _ _ iha ihb => cCond c iha ihb)
    (fun id _ ih => cBlock id ih) (fun _ ih => iter ih n) (fun id f s => .exit id f s) (fun f s => .ret f s) c
noncomputable def lay (args : List AV) : Sl → Fr AV → Fr AV :=
  List.rec (fun _ f => f) (fun x _ ih p f => Sl.rec (fun i j x f ih => ih (j.up (i.up (.mk .d0 .d0) fun i => .mk i .d0) fun j => .mk i j) ((Sl.mk i j).set x f)) p x f ih) args
noncomputable def frame0 (args : List AV) : Fr AV := lay args (.mk .d0 .d0) (.rep undef)
noncomputable def resOf (f : Fr AV) (s : St) (r : Res) (k : AV → R) : R :=
  Res.rec (fun t f _ k => k (t.get f)) (fun t agg sz f s k => ((t.get f).onPtr .no (fun b o => (s.obj b).onCells .no fun cs => wrap1 agg sz (dr o cs) s) fun _ => .no).on .no fun v _ => k v) r f s k
noncomputable def ress (f : Fr AV) (s : St) (l : List Res) (k : List AV → R) : R := List.rec (fun k => k []) (fun r _ ih k => resOf f s r fun v => ih fun vs => k (v :: vs)) l k
noncomputable def pack (l : List AV) : AV := List.rec (fun l => .tup l) (fun v r _ l => List.rec v (fun _ _ _ => .tup l) r) l l
noncomputable def fin (res : List Res) (r : RC) : R := r.on .no (fun f s => ress f s res fun l => .ok (pack l) s) (fun _ _ _ => .no) fun f s => ress f s res fun l => .ok (pack l) s
noncomputable def evF (call : CallT) (n : Nat) (c : CF) (args : List AV) (s : St) : R :=
  CF.rec (fun _ _ => .no) (fun nt res body args s => br (Nat.ble (ln args) nt) (fin res (excode call n body (frame0 args) s)) .no) c args s
noncomputable def ev (C : Tab CF) (k : Nat) : CallT := Nat.rec (fun _ _ _ => .no) (fun k ih g args s => evF ih k (g.get C) args s) k

section
variable (P : Program)
noncomputable def copG (ops : Array Oper) : Option (Nat × Bool) → Option CG
  | none => some .none
  | some (j, b) => do
    let o ← ops[j]?
    let d ← o.dst
    if d < 256 then some (.g (.ofNat d) b) else none
noncomputable def copD (nt : Nat) : Option Tmp → Option CD
  | none => some .none
  | some d => if d < nt ∧ d < 256 then some (.d (.ofNat d)) else none
noncomputable def copR (nt : Nat) (ops : Array Oper) (o : Oper) : Option CR := do
  some (.mk (← copD nt o.dst) (← cop P o.op) (← copG ops o.guard))
noncomputable def pres : List Oper → List Nat → List Nat
  | [], acc => acc
  | o :: r, acc => pres r (acc ++ [o.after.toList.foldl (fun m e => if Region.binds .any e then m ||| 2 ^ e.on ||| acc.getD e.on 0 else m) 0])
noncomputable def coS (x : CO) : List Sl := CO.rec (fun s => [s]) (fun _ => []) x
noncomputable def cosS : List CO → List Sl
  | [] => []
  | x :: l => coS x ++ cosS l
noncomputable def cooS : Option CO → List Sl
  | none => []
  | some x => coS x
noncomputable def partsS : List Part → List Sl
  | [] => []
  | p :: l => coS p.x ++ partsS l
noncomputable def COp.slots : COp → List Sl
  | .mv x | .mvs x | .box x | .load _ _ x | .nilck x | .neg x | .not x | .conv _ x | .tobytes x | .tostr x | .mkif _ x | .faddr _ x | .field _ _ _ x | .ext x _ | .lens x | .lenm x | .len x | .cap x => coS x
  | .pick a b c | .mupd _ a b c => coS a ++ (coS b ++ coS c)
  | .alloc _ | .mkmap => []
  | .build _ ps | .blit _ _ ps => partsS ps
  | .store _ x y | .bin _ x y | .beq _ x y | .nileq _ _ x y | .mksl _ _ x y | .iaddr _ x y | .paddr _ _ x y | .sidx x y | .aidx _ _ _ x y | .lookup _ _ x y _ | .app _ _ x y => coS x ++ coS y
  | .mkfn _ a b => cosS a ++ cosS b
  | .slice _ x a b c => coS x ++ (cooS a ++ (cooS b ++ cooS c))
  | .sslice x a b => coS x ++ (cooS a ++ cooS b)
  | .callf _ as => cosS as
  | .callv g as => coS g ++ cosS as
  | .mm _ x r => coS x ++ cosS r
noncomputable def CR.dst : CR → Option Sl
  | .mk (.d s) _ _ => some s
  | .mk .none _ _ => none
noncomputable def CR.names : CR → List Sl
  | .mk cd co cg => (match cd with | .d s => [s] | .none => []) ++ ((match cg with | .g s _ => [s] | .none => []) ++ co.slots)
noncomputable def DR.cr : DR → CR
  | .mk _ _ _ o => o
noncomputable def DR.pre : DR → Nat
  | .mk _ p _ _ => p
noncomputable def DR.i : DR → Nat
  | .mk i _ _ _ => i
noncomputable def DR.kind : DR → Kind
  | .mk _ _ k _ => k
noncomputable def offs (d : Option Sl) (l : List Sl) : Bool := d.all fun s => !l.contains s
noncomputable def apart1 (x : DR) : List DR → Bool
  | [] => true
  | y :: l => (bit y.pre x.i || (offs x.cr.dst y.cr.names && offs y.cr.dst x.cr.names)) && apart1 x l
noncomputable def apartOk : List DR → Bool
  | [] => true
  | x :: l => apart1 x l && apartOk l
noncomputable def preOk (ops : Array Oper) (pre : List Nat) : Bool :=
  (List.range ops.size).all fun i => match ops[i]? with
    | some o => (o.after.toList.all fun e => !Region.binds .any e || decide (e.on < i)) &&
      (List.range ops.size).all fun j => !bit (pre.getD i 0) j || o.after.toList.any fun e => Region.binds .any e && (e.on == j || bit (pre.getD e.on 0) j)
    | none => false
noncomputable def drs (nt : Nat) (ops : Array Oper) (pre : List Nat) : List Oper → Nat → Option (List DR)
  | [], _ => some []
  | o :: r, i => do
    let c ← copR P nt ops o
    let l ← drs nt ops pre r (i + 1)
    let op ← cop P o.op
    some (.mk i (pre.getD i 0) op.kind c :: l)
noncomputable def ccDrawn (nt : Nat) (ops : Array Oper) : Option CC :=
    let pre := pres ops.toList []
    if preOk ops pre then (drs P nt ops pre ops.toList 0).bind fun l => if apartOk l then some (.drawn l) else none else none
noncomputable def badC : CC := .region [.mk .none (.ext (.c .nilp) 0) .none]
noncomputable def cc (nt : Nat) : Code → Option CC
  | .skip => some .skip
  | .region _ ops false => some (((ops.toList.mapM (copR P nt ops)).map .region).getD badC)
  | .region _ ops true => some ((ccDrawn P nt ops).getD badC)
  | .seq a b => do some (.seq (← cc nt a) (← cc nt b))
  | .cond c a b => do
    let x ← cc nt a
    let y ← cc nt b
    some (((cod c).map fun c => CC.cond c x y).getD badC)
  | .scope c => cc nt c
  | .label _ => some .skip
  | .block i c => (cc nt c).map (.block i)
  | .loop c => (cc nt c).map .loop
  | .exit i => some (.exit i)
  | .ret => some .ret
  | _ => some badC
noncomputable def copRes : ResultVar → Option Res
  | .tmp t => if t < 256 then some (.tmp (.ofNat t)) else none
  | .cell t ty => do if t < 256 then some (.cell (.ofNat t) (← aggAt P ty) (← sizeAt P ty)) else none
noncomputable def cf (f : Func) : CF :=
  (do
    let b ← f.body
    let c ← cc P f.ntmps b
    let r ← f.results.toList.mapM (copRes P)
    if f.ntmps ≤ 256 ∧ f.name ≠ "runtime.NumGoroutine" then some (CF.mk f.ntmps r c) else none).getD .bad
noncomputable def cfs : List Func → Id → Tab CF → Tab CF
  | [], _, t => t
  | f :: r, p, t => cfs r (p.up p fun q => q) (p.set (cf P f) t)
noncomputable def prog : Tab CF := if P.funcs.size ≤ 65536 then cfs P P.funcs.toList (.mk .d0 .d0 .d0 .d0 0) (.rep .bad) else .rep .bad
end
end Go.Vm
