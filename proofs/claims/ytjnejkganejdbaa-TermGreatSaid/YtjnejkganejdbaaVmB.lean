/- The abstract machine: code compiled out of the program's, and its evaluation. No condition. -/
import Derived.Test.YtjnejkganejdbaaVmA
namespace Go.Vm
set_option linter.unusedVariables false
/-! ### Eliminators: tables of constants, so that the kernel goes fast -/
noncomputable def AV.onBool {β : Type} : AV → β → (Bool → β) → β := AV.rec (motive_1 := fun _ => β → (Bool → β) → β) (motive_2 := fun _ => Unit) (fun b _ h => h b) (fun _ _ d _ => d) (fun _ d _ => d) (fun d _ => d) (fun _ _ d _ => d) (fun _ _ d _ => d) (fun d _ => d) (fun _ _ _ _ _ d _ => d) (fun _ _ _ _ _ d _ => d) (fun d _ => d) (fun _ d _ => d) (fun d _ => d) (fun _ _ _ _ _ d _ => d) (fun d _ => d) (fun _ _ _ d _ => d) (fun _ _ d _ => d) (fun _ _ d _ => d) () (fun _ _ _ _ => ())
noncomputable def AV.onInt {β : Type} : AV → β → (IntKind → Int → β) → β := AV.rec (motive_1 := fun _ => β → (IntKind → Int → β) → β) (motive_2 := fun _ => Unit) (fun _ d _ => d) (fun k n _ h => h k n) (fun _ d _ => d) (fun d _ => d) (fun _ _ d _ => d) (fun _ _ d _ => d) (fun d _ => d) (fun _ _ _ _ _ d _ => d) (fun _ _ _ _ _ d _ => d) (fun d _ => d) (fun _ d _ => d) (fun d _ => d) (fun _ _ _ _ _ d _ => d) (fun d _ => d) (fun _ _ _ d _ => d) (fun _ _ d _ => d) (fun _ _ d _ => d) () (fun _ _ _ _ => ())
noncomputable def AV.onStr {β : Type} : AV → β → (List UInt8 → β) → β := AV.rec (motive_1 := fun _ => β → (List UInt8 → β) → β) (motive_2 := fun _ => Unit) (fun _ d _ => d) (fun _ _ d _ => d) (fun s _ h => h s) (fun d _ => d) (fun _ _ d _ => d) (fun _ _ d _ => d) (fun d _ => d) (fun _ _ _ _ _ d _ => d) (fun _ _ _ _ _ d _ => d) (fun d _ => d) (fun _ d _ => d) (fun d _ => d) (fun _ _ _ _ _ d _ => d) (fun d _ => d) (fun _ _ _ d _ => d) (fun _ _ d _ => d) (fun _ _ d _ => d) () (fun _ _ _ _ => ())
noncomputable def AV.onPtr {β : Type} : AV → β → (Id → Nat → β) → (List AV → β) → β := AV.rec (motive_1 := fun _ => β → (Id → Nat → β) → (List AV → β) → β) (motive_2 := fun _ => Unit) (fun _ d _ _ => d) (fun _ _ d _ _ => d) (fun _ d _ _ => d) (fun d _ _ => d) (fun b o _ h _ => h b o) (fun cs _ _ _ g => g cs) (fun d _ _ => d) (fun _ _ _ _ _ d _ _ => d) (fun _ _ _ _ _ d _ _ => d) (fun d _ _ => d) (fun _ d _ _ => d) (fun d _ _ => d) (fun _ _ _ _ _ d _ _ => d) (fun d _ _ => d) (fun _ _ _ d _ _ => d) (fun _ _ d _ _ => d) (fun _ _ d _ _ => d) () (fun _ _ _ _ => ())
noncomputable def AV.onSl {β : Type} : AV → β → β → (Id → Nat → Nat → Nat → Nat → β) → (List AV → Nat → Nat → Bool → β) → β := AV.rec (motive_1 := fun _ => β → β → (Id → Nat → Nat → Nat → Nat → β) → (List AV → Nat → Nat → Bool → β) → β) (motive_2 := fun _ => Unit) (fun _ d _ _ _ => d) (fun _ _ d _ _ _ => d) (fun _ d _ _ _ => d) (fun d _ _ _ => d) (fun _ _ d _ _ _ => d) (fun _ _ d _ _ _ => d) (fun _ e _ _ => e) (fun b o len cap ex _ _ h _ => h b o len cap ex) (fun cs len cap ex _ _ _ _ g => g cs len cap ex) (fun d _ _ _ => d) (fun _ d _ _ _ => d) (fun d _ _ _ => d) (fun _ _ _ _ _ d _ _ _ => d) (fun d _ _ _ => d) (fun _ _ _ d _ _ _ => d) (fun _ _ d _ _ _ => d) (fun _ _ d _ _ _ => d) () (fun _ _ _ _ => ())
noncomputable def AV.onMap {β : Type} : AV → β → β → (Id → β) → β := AV.rec (motive_1 := fun _ => β → β → (Id → β) → β) (motive_2 := fun _ => Unit) (fun _ d _ _ => d) (fun _ _ d _ _ => d) (fun _ d _ _ => d) (fun d _ _ => d) (fun _ _ d _ _ => d) (fun _ _ d _ _ => d) (fun d _ _ => d) (fun _ _ _ _ _ d _ _ => d) (fun _ _ _ _ _ d _ _ => d) (fun _ e _ => e) (fun b _ _ h => h b) (fun d _ _ => d) (fun _ _ _ _ _ d _ _ => d) (fun d _ _ => d) (fun _ _ _ d _ _ => d) (fun _ _ d _ _ => d) (fun _ _ d _ _ => d) () (fun _ _ _ _ => ())
noncomputable def AV.onFn {β : Type} : AV → β → (Id → List AV → List AV → β) → β := AV.rec (motive_1 := fun _ => β → (Id → List AV → List AV → β) → β) (motive_2 := fun _ => Unit) (fun _ d _ => d) (fun _ _ d _ => d) (fun _ d _ => d) (fun d _ => d) (fun _ _ d _ => d) (fun _ _ d _ => d) (fun d _ => d) (fun _ _ _ _ _ d _ => d) (fun _ _ _ _ _ d _ => d) (fun d _ => d) (fun _ d _ => d) (fun d _ => d) (fun f first cap _ _ _ h => h f first cap) (fun d _ => d) (fun _ _ _ d _ => d) (fun _ _ d _ => d) (fun _ _ d _ => d) () (fun _ _ _ _ => ())
noncomputable def AV.onAgg {β : Type} : AV → β → (List AV → β) → β := AV.rec (motive_1 := fun _ => β → (List AV → β) → β) (motive_2 := fun _ => Unit) (fun _ d _ => d) (fun _ _ d _ => d) (fun _ d _ => d) (fun d _ => d) (fun _ _ d _ => d) (fun _ _ d _ => d) (fun d _ => d) (fun _ _ _ _ _ d _ => d) (fun _ _ _ _ _ d _ => d) (fun d _ => d) (fun _ d _ => d) (fun d _ => d) (fun _ _ _ _ _ d _ => d) (fun d _ => d) (fun _ _ _ d _ => d) (fun cs _ _ h => h cs) (fun _ _ d _ => d) () (fun _ _ _ _ => ())
noncomputable def AV.onTup {β : Type} : AV → β → (List AV → β) → β := AV.rec (motive_1 := fun _ => β → (List AV → β) → β) (motive_2 := fun _ => Unit) (fun _ d _ => d) (fun _ _ d _ => d) (fun _ d _ => d) (fun d _ => d) (fun _ _ d _ => d) (fun _ _ d _ => d) (fun d _ => d) (fun _ _ _ _ _ d _ => d) (fun _ _ _ _ _ d _ => d) (fun d _ => d) (fun _ d _ => d) (fun d _ => d) (fun _ _ _ _ _ d _ => d) (fun d _ => d) (fun _ _ _ d _ => d) (fun _ _ d _ => d) (fun vs _ _ h => h vs) () (fun _ _ _ _ => ())
noncomputable def AV.onCells {β : Type} : AV → β → (List AV → β) → (List AV → β) → β := AV.rec (motive_1 := fun _ => β → (List AV → β) → (List AV → β) → β) (motive_2 := fun _ => Unit) (fun _ d _ _ => d) (fun _ _ d _ _ => d) (fun _ d _ _ => d) (fun d _ _ => d) (fun _ _ d _ _ => d) (fun _ _ d _ _ => d) (fun d _ _ => d) (fun _ _ _ _ _ d _ _ => d) (fun _ _ _ _ _ d _ _ => d) (fun d _ _ => d) (fun _ d _ _ => d) (fun d _ _ => d) (fun _ _ _ _ _ d _ _ => d) (fun d _ _ => d) (fun _ _ _ d _ _ => d) (fun cs _ _ h _ => h cs) (fun vs _ _ _ g => g vs) () (fun _ _ _ _ => ())
noncomputable def AV.onNil {β : Type} : AV → β → β → β := AV.rec (motive_1 := fun _ => β → β → β) (motive_2 := fun _ => Unit) (fun _ d _ => d) (fun _ _ d _ => d) (fun _ d _ => d) (fun _ e => e) (fun _ _ d _ => d) (fun _ _ d _ => d) (fun _ e => e) (fun _ _ _ _ _ d _ => d) (fun _ _ _ _ _ d _ => d) (fun _ e => e) (fun _ d _ => d) (fun _ e => e) (fun _ _ _ _ _ d _ => d) (fun _ e => e) (fun _ _ _ d _ => d) (fun _ _ d _ => d) (fun _ _ d _ => d) () (fun _ _ _ _ => ())
noncomputable def AV.onIsSl {β : Type} : AV → β → β → β := AV.rec (motive_1 := fun _ => β → β → β) (motive_2 := fun _ => Unit) (fun _ d _ => d) (fun _ _ d _ => d) (fun _ d _ => d) (fun d _ => d) (fun _ _ d _ => d) (fun _ _ d _ => d) (fun _ e => e) (fun b o len cap ex _ e => e) (fun cs len cap ex _ _ e => e) (fun d _ => d) (fun _ d _ => d) (fun d _ => d) (fun _ _ _ _ _ d _ => d) (fun d _ => d) (fun _ _ _ d _ => d) (fun _ _ d _ => d) (fun _ _ d _ => d) () (fun _ _ _ _ => ())
noncomputable def AV.onIsPtr {β : Type} : AV → β → β → β := AV.rec (motive_1 := fun _ => β → β → β) (motive_2 := fun _ => Unit) (fun _ d _ => d) (fun _ _ d _ => d) (fun _ d _ => d) (fun _ e => e) (fun b o _ e => e) (fun cs _ _ e => e) (fun d _ => d) (fun _ _ _ _ _ d _ => d) (fun _ _ _ _ _ d _ => d) (fun d _ => d) (fun _ d _ => d) (fun d _ => d) (fun _ _ _ _ _ d _ => d) (fun d _ => d) (fun _ _ _ d _ => d) (fun _ _ d _ => d) (fun _ _ d _ => d) () (fun _ _ _ _ => ())
noncomputable def AV.onIsMap {β : Type} : AV → β → β → β := AV.rec (motive_1 := fun _ => β → β → β) (motive_2 := fun _ => Unit) (fun _ d _ => d) (fun _ _ d _ => d) (fun _ d _ => d) (fun d _ => d) (fun _ _ d _ => d) (fun _ _ d _ => d) (fun d _ => d) (fun _ _ _ _ _ d _ => d) (fun _ _ _ _ _ d _ => d) (fun _ e => e) (fun b _ e => e) (fun d _ => d) (fun _ _ _ _ _ d _ => d) (fun d _ => d) (fun _ _ _ d _ => d) (fun _ _ d _ => d) (fun _ _ d _ => d) () (fun _ _ _ _ => ())
noncomputable def AV.onIsFn {β : Type} : AV → β → β → β := AV.rec (motive_1 := fun _ => β → β → β) (motive_2 := fun _ => Unit) (fun _ d _ => d) (fun _ _ d _ => d) (fun _ d _ => d) (fun d _ => d) (fun _ _ d _ => d) (fun _ _ d _ => d) (fun d _ => d) (fun _ _ _ _ _ d _ => d) (fun _ _ _ _ _ d _ => d) (fun d _ => d) (fun _ d _ => d) (fun _ e => e) (fun f first cap _ _ _ e => e) (fun d _ => d) (fun _ _ _ d _ => d) (fun _ _ d _ => d) (fun _ _ d _ => d) () (fun _ _ _ _ => ())
noncomputable def AV.onIsIfc {β : Type} : AV → β → β → β := AV.rec (motive_1 := fun _ => β → β → β) (motive_2 := fun _ => Unit) (fun _ d _ => d) (fun _ _ d _ => d) (fun _ d _ => d) (fun d _ => d) (fun _ _ d _ => d) (fun _ _ d _ => d) (fun d _ => d) (fun _ _ _ _ _ d _ => d) (fun _ _ _ _ _ d _ => d) (fun d _ => d) (fun _ d _ => d) (fun d _ => d) (fun _ _ _ _ _ d _ => d) (fun _ e => e) (fun t v _ _ e => e) (fun _ _ d _ => d) (fun _ _ d _ => d) () (fun _ _ _ _ => ())
noncomputable def AV.onNil3 {β : Type} : AV → β → β → β := AV.rec (motive_1 := fun _ => β → β → β) (motive_2 := fun _ => Unit) (fun _ d _ => d) (fun _ _ d _ => d) (fun _ d _ => d) (fun _ e => e) (fun _ _ d _ => d) (fun _ _ d _ => d) (fun d _ => d) (fun _ _ _ _ _ d _ => d) (fun _ _ _ _ _ d _ => d) (fun d _ => d) (fun _ d _ => d) (fun _ e => e) (fun _ _ _ _ _ d _ => d) (fun _ e => e) (fun _ _ _ d _ => d) (fun _ _ d _ => d) (fun _ _ d _ => d) () (fun _ _ _ _ => ())
noncomputable def br {β : Type} (b : Bool) (x y : β) : β := Bool.rec y x b
noncomputable def R.on {β : Type} (r : R) (d : β) (k : AV → St → β) : β := R.rec d k r
noncomputable def RC.on {β : Type} (r : RC) (d : β) (k : Fr AV → St → β) (e : Nat → Fr AV → St → β) (t : Fr AV → St → β) : β := RC.rec d k e t r
noncomputable def AO.onCells {β : Type} (o : AO) (d : β) (k : List AV → β) : β := AO.rec (fun cs _ k => k cs) (fun _ d _ => d) (fun d _ => d) o d k
noncomputable def AO.onMap {β : Type} (o : AO) (d : β) (k : List (AV × AV) → β) : β := AO.rec (fun _ d _ => d) (fun es _ k => k es) (fun d _ => d) o d k

/-! ### Lists -/
section
variable {α : Type}
noncomputable def tk (n : Nat) : List α → List α := Nat.rec (fun _ => []) (fun _ ih l => List.rec (fun _ => []) (fun x r _ ih => x :: ih r) l ih) n
noncomputable def dr (n : Nat) : List α → List α := Nat.rec (fun l => l) (fun _ ih l => List.rec (fun _ => []) (fun _ r _ ih => ih r) l ih) n
noncomputable def nth (n : Nat) : List α → Option α := Nat.rec (fun l => List.rec none (fun x _ _ => some x) l) (fun _ ih l => List.rec (fun _ => none) (fun _ r _ ih => ih r) l ih) n
noncomputable def apd (a b : List α) : List α := List.rec b (fun x _ ih => x :: ih) a
noncomputable def over (xs : List α) : List α → List α := List.rec (fun l => l) (fun x _ ih l => List.rec (fun _ _ => []) (fun _ r _ ih x => x :: ih r) l ih x) xs
noncomputable def splice (o : Nat) (xs : List α) : List α → List α := Nat.rec (fun l => over xs l) (fun _ ih l => List.rec (fun _ => []) (fun y r _ ih => y :: ih r) l ih) o
noncomputable def ln (l : List α) : Nat := List.rec 0 (fun _ _ ih => Nat.add ih 1) l
noncomputable def reps (n : Nat) (z : List α) : List α := Nat.rec [] (fun _ ih => apd z ih) n
theorem tk_eq (n : Nat) (l : List α) : tk n l = l.take n := by
  induction n generalizing l with
  | zero => rfl
  | succ n ih => cases l with
    | nil => simp [tk]
    | cons x r => show x :: tk n r = _; rw [ih]; simp
theorem dr_eq (n : Nat) (l : List α) : dr n l = l.drop n := by
  induction n generalizing l with
  | zero => rfl
  | succ n ih => cases l with
    | nil => simp [dr]
    | cons x r => show dr n r = _; rw [ih]; simp
theorem nth_eq (n : Nat) (l : List α) : nth n l = l[n]? := by
  induction n generalizing l with
  | zero => cases l <;> rfl
  | succ n ih => cases l with
    | nil => rfl
    | cons x r => show nth n r = _; rw [ih]; simp
theorem apd_eq (a b : List α) : apd a b = a ++ b := by
  induction a with
  | nil => rfl
  | cons x r ih => show x :: apd r b = _; rw [ih]; rfl
theorem ln_eq (l : List α) : ln l = l.length := by
  induction l with
  | nil => rfl
  | cons x r ih => show Nat.add (ln r) 1 = _; rw [ih]; rfl
theorem over_get (xs l : List α) (j : Nat) : (over xs l)[j]? = if j < l.length then (if j < xs.length then xs[j]? else l[j]?) else none := by
  induction xs generalizing l j with
  | nil =>
    show l[j]? = _
    by_cases h : j < l.length
    · simp [h]
    · rw [if_neg h]; exact List.getElem?_eq_none (by omega)
  | cons x r ih => cases l with
    | nil => simp [over]
    | cons y l =>
      show (x :: over r l)[j]? = _
      cases j with
      | zero => simp
      | succ j => simp only [List.getElem?_cons_succ, List.length_cons, Nat.add_lt_add_iff_right]; exact ih l j
theorem splice_get (o : Nat) (xs l : List α) (j : Nat) : (splice o xs l)[j]? = if j < l.length then (if o ≤ j ∧ j < o + xs.length then xs[j - o]? else l[j]?) else none := by
  induction o generalizing l j with
  | zero => show (over xs l)[j]? = _; rw [over_get]; simp
  | succ o ih => cases l with
    | nil => simp [splice]
    | cons y l =>
      show (y :: splice o xs l)[j]? = _
      cases j with
      | zero => simp
      | succ j =>
        simp only [List.getElem?_cons_succ, List.length_cons, Nat.add_lt_add_iff_right]
        rw [ih]
        by_cases h : j < l.length
        · rw [if_pos h, if_pos h]
          by_cases h2 : o ≤ j ∧ j < o + xs.length
          · rw [if_pos h2, if_pos (by omega)]; congr 1; omega
          · rw [if_neg h2, if_neg (by omega)]
        · rw [if_neg h, if_neg h]
theorem over_length (xs l : List α) : (over xs l).length = l.length := by
  induction xs generalizing l with
  | nil => rfl
  | cons x r ih => cases l with
    | nil => rfl
    | cons y l => show (x :: over r l).length = _; simp [ih]
theorem splice_length (o : Nat) (xs l : List α) : (splice o xs l).length = l.length := by
  induction o generalizing l with
  | zero => exact over_length xs l
  | succ o ih => cases l with
    | nil => rfl
    | cons y l => show (y :: splice o xs l).length = _; simp [ih]
theorem reps_length (n : Nat) (z : List α) : (reps n z).length = n * z.length := by
  induction n with
  | zero => rw [Nat.zero_mul]; rfl
  | succ n ih => show (apd z (reps n z)).length = _; rw [apd_eq, List.length_append, ih, Nat.succ_mul, Nat.add_comm]
theorem reps_get (n : Nat) (z : List α) (j : Nat) (h : j < n * z.length) : (reps n z)[j]? = z[j % z.length]? := by
  induction n generalizing j with
  | zero => simp at h
  | succ n ih =>
    show (apd z (reps n z))[j]? = _
    rw [apd_eq]
    by_cases hj : j < z.length
    · rw [List.getElem?_append_left hj, Nat.mod_eq_of_lt hj]
    · have h' : j - z.length < n * z.length := by
        have e : (n + 1) * z.length = n * z.length + z.length := Nat.succ_mul _ _
        omega
      rw [List.getElem?_append_right (by omega), ih _ h', ← Nat.mod_eq_sub_mod (by omega)]
end

/-! ### Operands, numbers -/
inductive CO where
  | t (s : Sl)
  | c (v : AV)
noncomputable def ev1 (f : Fr AV) (x : CO) : AV := CO.rec (fun s f => s.get f) (fun v _ => v) x f
noncomputable def evs (f : Fr AV) (l : List CO) : List AV := List.rec [] (fun x _ ih => ev1 f x :: ih) l
noncomputable def evo (f : Fr AV) (x : Option CO) : Option AV := Option.rec none (fun x => some (ev1 f x)) x

noncomputable def ieq (a b : Int) : Bool := Int.rec (fun m b => Int.rec (fun n m => Nat.beq m n) (fun _ _ => false) b m) (fun m b => Int.rec (fun _ _ => false) (fun n m => Nat.beq m n) b m) a b
noncomputable def ilt (a b : Int) : Bool := Int.rec (fun m b => Int.rec (fun n m => Nat.ble (Nat.succ m) n) (fun _ _ => false) b m) (fun m b => Int.rec (fun _ _ => true) (fun n m => Nat.ble (Nat.succ n) m) b m) a b
theorem ieq_eq (a b : Int) : ieq a b = (a == b) := by
  cases a <;> cases b
  · show Nat.beq _ _ = _; rw [Bool.eq_iff_iff]; simp; omega
  · rw [Bool.eq_iff_iff]; simp [ieq]
  · rw [Bool.eq_iff_iff]; simp [ieq]
  · show Nat.beq _ _ = _; rw [Bool.eq_iff_iff]; simp
theorem ilt_eq (a b : Int) : ilt a b = decide (a < b) := by
  cases a <;> cases b
  · show Nat.ble _ _ = _; rw [Bool.eq_iff_iff]; simp; omega
  · rw [Bool.eq_iff_iff]; simp [ilt]; omega
  · rw [Bool.eq_iff_iff]; simp [ilt]; omega
  · show Nat.ble _ _ = _; rw [Bool.eq_iff_iff]; simp; omega
def b63 : Nat := 9223372036854775808
def b64 : Nat := 18446744073709551616
noncomputable def sfit (h n : Nat → Bool) (x : Int) : Bool := Int.rec (fun m h _ => h m) (fun m _ n => n m) x h n
/-- Is it of the kind? -/
noncomputable def fits (k : IntKind) : Int → Bool :=
  IntKind.rec (sfit (fun m => Nat.ble m 127) (fun m => Nat.ble m 127)) (sfit (fun m => Nat.ble m 32767) (fun m => Nat.ble m 32767)) (sfit (fun m => Nat.ble m 2147483647) (fun m => Nat.ble m 2147483647))
    (sfit (fun m => Nat.ble m 9223372036854775807) (fun m => Nat.ble m 9223372036854775807)) (sfit (fun m => Nat.ble m 255) (fun _ => false)) (sfit (fun m => Nat.ble m 65535) (fun _ => false))
    (sfit (fun m => Nat.ble m 4294967295) (fun _ => false)) (sfit (fun m => Nat.ble m 18446744073709551615) (fun _ => false)) k
noncomputable def wr (k : IntKind) (n : Int) : Int := br (fits k n) n (k.wrap n)
theorem wr_eq (k : IntKind) (n : Int) : wr k n = k.wrap n := by
  unfold wr
  cases h : fits k n with
  | false => rfl
  | true =>
    show n = _
    cases k <;> cases n <;> simp only [fits, sfit, Nat.ble_eq, Bool.false_eq_true] at h <;> simp only [IntKind.wrap, IntKind.bits, IntKind.signed] <;> simp <;> omega
noncomputable def keq (j k : IntKind) : Bool :=
  IntKind.rec (IntKind.rec true false false false false false false false) (IntKind.rec false true false false false false false false) (IntKind.rec false false true false false false false false) (IntKind.rec false false false true false false false false)
    (IntKind.rec false false false false true false false false) (IntKind.rec false false false false false true false false) (IntKind.rec false false false false false false true false) (IntKind.rec false false false false false false false true) j k
theorem keq_iff (j k : IntKind) : keq j k = true ↔ j = k := by cases j <;> cases k <;> simp [keq]
noncomputable def beqs (a b : List UInt8) : Bool :=
  List.rec (fun b => List.rec true (fun _ _ _ => false) b) (fun x _ ih b => List.rec (fun _ _ => false) (fun y s _ x ih => br (Nat.beq x.toNat y.toNat) (ih s) false) b x ih) a b
theorem beqs_eq (a b : List UInt8) : beqs a b = (a == b) := by
  induction a generalizing b with
  | nil => cases b <;> rfl
  | cons x a ih => cases b with
    | nil => rfl
    | cons y b =>
      show br (Nat.beq x.toNat y.toNat) (beqs a b) false = _
      rw [ih]
      cases h : Nat.beq x.toNat y.toNat with
      | true =>
        have : x = y := UInt8.toNat_inj.mp (Nat.eq_of_beq_eq_true h)
        subst this
        show (a == b) = _
        simp
      | false =>
        have : x ≠ y := fun e => by subst e; simp at h
        show false = _
        simp [this]
end Go.Vm
