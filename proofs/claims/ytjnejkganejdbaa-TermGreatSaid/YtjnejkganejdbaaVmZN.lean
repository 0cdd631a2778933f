/- The abstract machine: values by what lies in memory. No condition. -/
import Derived.Test.YtjnejkganejdbaaVmZM
namespace Go.Vm
set_option linter.unusedVariables false
variable {P : Program}
noncomputable def oneO (o : Option AV) (k : AV → Option AV) : Option AV := Option.rec none (fun a => k a) o
noncomputable def mapO (f : AV → Option AV) (chk : Bool) (l : List AV) : Option (List AV) :=
  List.rec (some []) (fun a _ ih => Option.rec none (fun b => br (br chk b.one true) (Option.rec none (fun r => some (b :: r)) ih) none) (f a)) l
/-- A value, its memory by what lies there. -/
noncomputable def vw (s : St) (own : Bool) : Nat → AV → Option AV
  | 0, _ => none
  | n + 1, .ptr b o => (mapO (vw s own n) true ((s.obj b).row.drop o)).map .tp
  | n + 1, .tp l => br own none ((mapO (vw s own n) true l).map .tp)
  | n + 1, .sl b o len cap ex => (mapO (vw s own n) true ((s.obj b).row.drop o)).map fun l => .ts l len len false
  | n + 1, .ts l len cap ex => br own none ((mapO (vw s own n) true l).map fun l => .ts l len len false)
  | n + 1, .agg l => (mapO (vw s own n) true l).map .agg
  | n + 1, .tup l => (mapO (vw s own n) false l).map .tup
  | n + 1, .bool b => some (.bool b)
  | n + 1, .int k i => some (.int k i)
  | n + 1, .str b => some (.str b)
  | n + 1, .nilp => some .nilp
  | n + 1, .nils => some .nils
  | n + 1, .nilf => some .nilf
  | n + 1, .nili => some .nili
  | _, _ => none
theorem mapO_cons {f : AV → Option AV} {chk : Bool} {a : AV} {l : List AV} {r : List AV} (h : mapO f chk (a :: l) = some r) : ∃ b r', f a = some b ∧ (chk = true → b.one = true) ∧ mapO f chk l = some r' ∧ r = b :: r' := by
  have h' : (Option.rec none (fun b => br (br chk b.one true) (Option.rec none (fun r => some (b :: r)) (mapO f chk l)) none) (f a) : Option (List AV)) = some r := h
  cases hf : f a with
  | none => rw [hf] at h'; cases h'
  | some b =>
    rw [hf] at h'
    have h2 : br (br chk b.one true) (Option.rec none (fun r => some (b :: r)) (mapO f chk l) : Option (List AV)) none = some r := h'
    cases hm : mapO f chk l with
    | none => rw [hm] at h2; cases hc : br chk b.one true <;> rw [hc] at h2 <;> cases h2
    | some r' =>
      rw [hm] at h2
      cases hc : br chk b.one true with
      | false => rw [hc] at h2; cases h2
      | true =>
        rw [hc] at h2; cases h2
        refine ⟨b, r', rfl, fun hk => ?_, rfl, rfl⟩
        rw [hk] at hc; exact hc
theorem vw_mt {s : St} {own : Bool} : ∀ (n : Nat) (v p : AV), vw s own n v = some p → mt s own p v = true := by
  intro n
  induction n with
  | zero => intro v p h; cases v <;> cases h
  | succ n ih =>
    have hp : ∀ (l r : List AV), mapO (vw s own n) true l = some r → mt.mtp s own r l = true ∧ r.length = l.length := by
      intro l
      induction l with
      | nil => intro r h; cases h; exact ⟨rfl, rfl⟩
      | cons a l ihl =>
        intro r h
        obtain ⟨b, r', h1, h2, h3, rfl⟩ := mapO_cons h
        obtain ⟨h4, h5⟩ := ihl r' h3
        exact ⟨by simp only [mt.mtp, Bool.and_eq_true]; exact ⟨⟨h2 rfl, ih a b h1⟩, h4⟩, by simp [h5]⟩
    have hs : ∀ (l r : List AV), mapO (vw s own n) false l = some r → mt.mts s own r l = true := by
      intro l
      induction l with
      | nil => intro r h; cases h; rfl
      | cons a l ihl =>
        intro r h
        obtain ⟨b, r', h1, h2, h3, rfl⟩ := mapO_cons h
        simp only [mt.mts, Bool.and_eq_true]; exact ⟨ih a b h1, ihl r' h3⟩
    intro v p h
    cases v with
    | bool b => cases h; simp [mt]
    | int k i => cases h; simp [mt, (keq_iff k k).mpr rfl]
    | str b => cases h; simp [mt]
    | nilp => cases h; rfl
    | nils => cases h; rfl
    | nilf => cases h; rfl
    | nili => cases h; rfl
    | ptr b o =>
      simp only [vw, Option.map_eq_some_iff] at h
      obtain ⟨l, h1, rfl⟩ := h
      exact (hp _ _ h1).1
    | sl b o len cap ex =>
      simp only [vw, Option.map_eq_some_iff] at h
      obtain ⟨l, h1, rfl⟩ := h
      simp [mt, (hp _ _ h1).1]
    | tp l =>
      cases ho : own with
      | true => simp only [vw, ho, br_true] at h; cases h
      | false =>
        simp only [vw, ho, br_false, Option.map_eq_some_iff] at h
        obtain ⟨l', h1, rfl⟩ := h
        rw [← ho] at h1 ⊢
        simp only [mt, Bool.and_eq_true, Bool.not_eq_true']
        exact ⟨ho, (hp _ _ h1).1⟩
    | ts l len cap ex =>
      cases ho : own with
      | true => simp only [vw, ho, br_true] at h; cases h
      | false =>
        simp only [vw, ho, br_false, Option.map_eq_some_iff] at h
        obtain ⟨l', h1, rfl⟩ := h
        rw [← ho] at h1 ⊢
        simp [mt, ho]
        rw [← ho]; exact (hp _ _ h1).1
    | agg l =>
      simp only [vw, Option.map_eq_some_iff] at h
      obtain ⟨l', h1, rfl⟩ := h
      simp [mt, hp _ _ h1]
    | tup l =>
      simp only [vw, Option.map_eq_some_iff] at h
      obtain ⟨l', h1, rfl⟩ := h
      exact hs _ _ h1
    | nilm => cases h
    | map b => cases h
    | fn f a b => cases h
    | ifc t a => cases h
theorem vws_mts {s : St} {own : Bool} {n : Nat} {l r : List AV} (h : mapO (vw s own n) false l = some r) : mt.mts s own r l = true := by
  induction l generalizing r with
  | nil => cases h; rfl
  | cons a l ihl =>
    obtain ⟨b, r', h1, h2, h3, rfl⟩ := mapO_cons h
    simp only [mt.mts, Bool.and_eq_true]; exact ⟨vw_mt n a b h1, ihl h3⟩
end Go.Vm
