/- A builder; what is told of the library. No condition. -/
import Derived.Test.YtdamhfbdogkkjaaGreatDoorLibA
import Derived.Shelf.Strings.BuilderK
import Derived.WalkKit
import Derived.BigCall
import Derived.LoopTactic
import Derived.KernelRfl
import Derived.Test.YtdamhfbdogkkjaaGreatDoorVmW
import Derived.Lib.LaidTab
namespace Go.Proofs.YtdamhfbdogkkjaaGreatDoor
open Go Go.Shelf Go.RowKit
set_option linter.unusedVariables false
theorem lays166 : Lays.n166 Tryz.prog Tryz.lays105_ren := { Tryz.lays105 with }
theorem lays169 : Lays.n169 Tryz.prog Tryz.lays105_ren := { Tryz.lays105 with }
def joined : List ByteArray → List UInt8
  | [] => []
  | x :: r => x.data.toList ++ joined r
theorem write_k (B b : Nat) (l : List UInt8) (s : ByteArray) (w : World) (h : Lib.IsBuilderF 124 5 B b (Lib.byteCells l) w) (hlen : l.length + s.size ≤ 140737488355328) (hBw : B ≤ w.heap.size) :
    Calls Tryz.prog 100 #[.pointer (some ⟨b, 0, none⟩), .string s] w fun e w' => e = .returned (.tuple #[.int .i64 s.size, .nilIface]) ∧ Lib.IsBuilderF 124 5 B b (Lib.byteCells (l ++ s.data.toList)) w' ∧ Below B w w' ∧ Lib.OthersKept 5 (some b) w w' := by
  refine (Any.Builder_WriteString_k lays166 Tryz.Builder_Extra_105 B b (Lib.byteCells l) s w h (by rw [Lib.byteCells_length]; exact hlen) hBw).mono ?_
  rintro e w' ⟨rfl, h1, h2, h3⟩
  refine ⟨rfl, ?_, h2, h3⟩
  rw [Lib.strCells_eq, ← Lib.byteCells_append] at h1
  exact Or.inr h1
theorem joined_take {texts : List ByteArray} {k : Nat} (h : k < texts.length) : joined (texts.take (k + 1)) = joined (texts.take k) ++ texts[k].data.toList := by
  induction texts generalizing k with
  | nil => simp at h
  | cons x r ih =>
    cases k with
    | zero => simp [joined]
    | succ k =>
      simp only [List.length_cons] at h
      rw [List.take_succ_cons, List.take_succ_cons, joined, joined, ih (by omega), List.append_assoc]
      rfl
theorem joined_le (texts : List ByteArray) (k : Nat) : (joined (texts.take k)).length ≤ (joined texts).length := by
  induction texts generalizing k with
  | nil => simp [joined]
  | cons x r ih =>
    cases k with
    | zero => simp [joined]
    | succ k => rw [List.take_succ_cons, joined, joined]; simp; exact ih k
set_option maxHeartbeats 1000000 in
theorem put_k (B b t : Nat) (texts : List ByteArray) (l : List UInt8) (w : World) (fr : Nat × Nat) (hb : Lib.IsBuilderF 124 5 B b (Lib.byteCells l) w) (hB : B ≤ w.heap.size) (ht : w.heap[t]? = some (.cells (texts.map Value.string).toArray 9 fr)) (htb : t ≠ b) (hn : texts.length ≤ 1000)
    (hlen : l.length + (joined texts).length ≤ 1000000) :
    Calls Tryz.prog 76 #[.pointer (some ⟨b, 0, none⟩), .slice (some ⟨t, 0, none⟩) texts.length texts.length] w fun e w' => e = .returned (.tuple #[]) ∧ Lib.IsBuilderF 124 5 B b (Lib.byteCells (l ++ joined texts)) w' ∧ Below B w w' := by
  go_enter Tryz.func76, Tryz.ntmps76
  go_wp2
  go_loopw [8] (fun i wr => ∃ k : Nat, k ≤ texts.length ∧ i = .int .i64 k ∧ Lib.IsBuilderF 124 5 B b (Lib.byteCells (l ++ joined (texts.take k))) wr ∧ Below B w wr ∧ wr.heap[t]? = some (.cells (texts.map Value.string).toArray 9 fr))
    (fun i _ => texts.length - (intOf i).toNat)
  case atStart => exact ⟨0, Nat.zero_le _, rfl, by simpa [joined] using hb, Below.refl _ _, ht⟩
  case round =>
    obtain ⟨k, hk, rfl, hbr, hbel, htr⟩ := hrel
    have hc : ∀ h : k < texts.length, wr.cell? ⟨t, k, none⟩ = some (.string texts[k]) := fun h => by simp [World.cell?, htr, h]
    by_cases hlt : k < texts.length
    · have hc' := hc hlt
      have hj := joined_take hlt
      have hsz : (l ++ joined (texts.take k)).length + texts[k].size ≤ 140737488355328 := by
        have := joined_le texts (k + 1)
        rw [hj] at this
        rw [Lib.size_eq]
        simp only [List.length_append] at this ⊢
        omega
      have hbs := hbel.size
      obtain ⟨x, hx⟩ : ∃ x, x = texts[k] := ⟨_, rfl⟩
      rw [← hx] at hc' hj hsz
      clear hx hc
      go_wp2_with (go_at_call 100; refine (write_k B b _ x _ hbr hsz (by omega)).mono ?_)
      rintro e W1 ⟨rfl, h1, h2, h3⟩
      go_wp2
      go_roundw
      case rel =>
        refine ⟨k + 1, by omega, by go_num, ?_, hbel.trans h2, h3 t _ htr (fun e => htb (Option.some.inj e)) (fun c fz h => by cases h)⟩
        rw [hj, ← List.append_assoc]
        exact h1
      case measure => simp [intOf]; omega
    · have : k = texts.length := by omega
      subst this
      go_wp2
      go_end0
      rw [List.take_length] at hbr
      exact ⟨rfl, hbr, hbel⟩
open Go.Lib
theorem below_up {B C : Nat} {a b c : World} (h : Below B a b) (k : Below C b c) (hBC : B ≤ C) : Below B a c :=
  ⟨k.os.trans h.os, k.tape.trans h.tape, k.output.trans h.output, Nat.le_trans h.size k.size, fun i hi => (k.block i (by omega)).trans (h.block i hi)⟩
theorem IsBuilderF_below {B b : Nat} {bs : List Value} {W W' : World} (h : IsBuilderF 124 5 B b bs W) (hb : Below W.heap.size W W') : IsBuilderF 124 5 B b bs W' := by
  have key : ∀ p, BuilderAtF 124 5 B b p bs W → BuilderAtF 124 5 B b p bs W' := by
    rintro p ⟨h1, v, h2, h3, h4⟩
    refine ⟨h1, v, by rw [hb.block b (Array.getElem?_eq_some_iff.1 h2).1]; exact h2, ⟨h3.1, ?_⟩, h4⟩
    rcases h3.2 with h5 | ⟨g, cap, cur, fz, e1, e2, e3, r⟩
    · exact .inl h5
    · exact .inr ⟨g, cap, cur, fz, e1, e2, by rw [hb.block g (Array.getElem?_eq_some_iff.1 e3).1]; exact e3, r⟩
  exact h.imp (key _) (key _)
theorem fresh_b (w : World) : IsBuilderF 124 5 w.heap.size w.heap.size (Lib.byteCells []) (w.alloc (.cells #[.pointer none, .slice none 0 0] 124)) := IsBuilderF.of (fresh_isBuilder 124 5 w)
theorem string_k (B b : Nat) (l : List UInt8) (w : World) (h : IsBuilderF 124 5 B b (Lib.byteCells l) w) (h0 : l ≠ []) : Calls Tryz.prog 79 #[.pointer (some ⟨b, 0, none⟩)] w fun e w' => e = .returned (.string ⟨l.toArray⟩) ∧ Below B w w' :=
  (Any.Builder_String_k lays169 Tryz.Builder_Extra_105 B b l w h h0).mono fun e w' h => ⟨h.1, h.2.2.1⟩
set_option maxHeartbeats 1000000 in
set_option maxRecDepth 100000 in
theorem nat_two (w : World) (g off cap : Nat) (hg : g < w.heap.size) (hc : w.cell? ⟨g, off, none⟩ = some (.int .u32 2)) (hIs : Calls Tryz.prog 75 #[.slice (some ⟨g, off, none⟩) 1 cap] w fun e w' => e = .returned (.bool true) ∧ Below w.heap.size w w') :
    Calls Tryz.prog 52 #[.slice (some ⟨g, off, none⟩) 1 cap] w fun e w' => e = .returned (.string ⟨#[50]⟩) ∧ Below w.heap.size w w' := by
  go_enter Tryz.func52, Tryz.ntmps52
  go_wp2_with (go_at_call 75; refine hIs.mono ?_)
  rintro e W1 ⟨rfl, b1⟩
  have b2 : Below W1.heap.size W1 (W1.alloc (.cells #[.pointer none, .slice none 0 0] 124)) := (Below.refl _ W1).alloc (Nat.le_refl _) _
  have hg1 := b1.size
  have hcm : (W1.alloc (.cells #[.pointer none, .slice none 0 0] 124)).cell? ⟨g, off, none⟩ = some (.int .u32 2) := by
    rw [b2.cell (by show g < _; omega), b1.cell (by exact hg)]; exact hc
  have hb0 := fresh_b W1
  have hd2 : Lib.decDigits 2 = [50] := by kernel_rfl
  have hI : ∀ W : World, Calls Tryz.prog 77 #[.int .i64 2] W fun e w' => e = .returned (.string ⟨#[50]⟩) ∧ Below W.heap.size W w' := fun W => (Tryz.strconv_Itoa_small 2 (by omega) W).mono fun e w' ⟨h1, h2⟩ => by
    rw [hd2] at h1
    exact ⟨h1, by rw [h2]; exact Below.refl _ _⟩
  go_wp2_with (go_at_call 77; refine (hI _).mono ?_)
  rintro e W2 ⟨rfl, b3⟩
  have hb1 := (IsBuilderF_below hb0 b3).alloc (.cells #[.string ⟨#[50]⟩] 9)
  have hs3 := b3.size
  have hs3' : W1.heap.size + 1 ≤ W2.heap.size := by simpa using hs3
  have b4 : Below W2.heap.size W2 (W2.alloc (.cells #[.string ⟨#[50]⟩] 9)) := (Below.refl _ _).alloc (Nat.le_refl _) _
  go_wp2_with (go_at_call 76; refine (put_k W1.heap.size W1.heap.size W2.heap.size [⟨#[50]⟩] [] _ (0, 0) hb1 (by have := b4.size; omega) (by simp [World.alloc, -World.alloc_eq]) (by omega) (by simp) (by simp [joined])).mono ?_)
  rintro e W3 ⟨rfl, hb2, b5⟩
  have b6 : Below W1.heap.size W1 W3 := (below_up (below_up b2 b3 (by simp)) b4 (by omega)).trans b5
  simp only [joined, List.append_nil, List.nil_append] at hb2
  go_wp2
  go_loopw [4] (fun i wr => i = .int .i64 (-1) ∧ wr = W3) (fun i _ => 0)
  case atStart => exact ⟨rfl, rfl⟩
  case round =>
    obtain ⟨rfl, rfl⟩ := hrel
    go_wp2_with (go_at_call 79; refine (string_k _ _ _ _ hb2 (by simp)).mono ?_)
    rintro e W4 ⟨rfl, b7⟩
    go_wp2
    go_ret
    exact ⟨rfl, below_up (below_up b1 b6 hg1) b7 hg1⟩
end Go.Proofs.YtdamhfbdogkkjaaGreatDoor
namespace Go.Proofs.YtdamhfbdogkkjaaGreatDoor
open Go Go.Vm Go.Shelf
open Go.RowKit (Below)
set_option linter.unusedVariables false
set_option linter.unusedSectionVars false
/-- The table of spaces. -/
noncomputable def tabS : List (Nat × (Option Obj → Prop)) := [(0, fun o => ∃ e fr, o = some (.cells (Lib.asciiSpaceTab.map fun z => Value.int .u8 z).toArray e fr))]
noncomputable instance layS : Lay := ⟨tabS, []⟩
instance bareS : Bare := ⟨rfl⟩
theorem globalS : Tryz.prog.globalNamed "strings.asciiSpace" = some 0 := by kernel_rfl
theorem tabS_is {E : Env} {w : World} (h : Laid E w) : Lib.TabIs Tryz.prog w "strings.asciiSpace" .u8 Lib.asciiSpaceTab := by
  obtain ⟨_, e, fr, h1⟩ := h.tabs 0 _ (List.mem_singleton.2 rfl)
  unfold Lib.TabIs World.var?
  rw [globalS]
  show (match w.heap[0]? with | some (.cells cs _ _) => some cs | _ => none) = _
  rw [h1]
theorem below_bytes (w : World) (e : TypeId) (s : ByteArray) : RowKit.Below w.heap.size w (Lib.bytesWorld w e s) :=
  ⟨rfl, rfl, rfl, by rw [Lib.bytesWorld_size]; omega, fun j hj => Lib.bytesWorld_at_old w e s j hj⟩
abbrev Ok (g : Nat) (args : List AV) (ret : AV) : Prop := Has Tryz.prog g ∧ Seen Tryz.prog g args ret
noncomputable def strs (fs : List (List UInt8)) : AV := .ts (fs.map AV.str) fs.length fs.length false
theorem fields_seen (l : List UInt8) (fs : List (List UInt8)) (h : Lib.fields l = fs) (hs : l.length < 1000) (ha : ∀ b ∈ l, b.toNat < 128) (hmt : mt (St.empty.push (.cells (fs.map AV.str))) true (strs fs) (.sl St.empty.n 0 fs.length fs.length 0) = true) : Ok 23 [.str l] (strs fs) := by
  refine ⟨⟨Tryz.f23, Tryz.func23, by kernel_rfl, by decide⟩, fun F w vals rel hrl => ?_⟩
  obtain ⟨u1, vs1, rfl, k1, hrl⟩ := hrl.cons_inv
  have e3 : vs1 = [] := List.eq_nil_of_length_eq_zero hrl.len
  subst e3
  obtain ⟨x, rfl, hx⟩ := rv_str k1
  refine Calls.mono (Tryz.strings_Fields x w (by rw [Lib.size_eq, hx]; omega) (fun j b hb => by rw [hx] at hb; exact ha b (List.mem_of_getElem? hb)) (tabS_is rel.laid)) ?_
  rintro e w' ⟨rfl, rfl⟩
  rw [hx, h]
  have hrow : RL F w (fs.map AV.str) (fs.map fun l => Value.string ⟨l.toArray⟩) := ⟨by simp, fun j c u hc hu => by
    rw [List.getElem?_map] at hc hu
    obtain ⟨a, ha, rfl⟩ := Option.map_eq_some_iff.1 hc
    rw [ha] at hu
    cases hu
    exact .str _ _ (by simp)⟩
  obtain ⟨E', hw, hD, hφ⟩ := went_row (w' := w.alloc (.cells (fs.map fun l => Value.string ⟨l.toArray⟩).toArray 9)) (e := 9) rel rfl rfl rfl rfl hrow (fun c hc => by obtain ⟨a, _, rfl⟩ := List.mem_map.1 hc; rfl)
  refine ⟨_, _, E', _, hmt, rfl, ?_, hw⟩
  have := RV.sl (E := E') (w := w.alloc (.cells (fs.map fun l => Value.string ⟨l.toArray⟩).toArray 9)) St.empty.n 0 fs.length fs.length fs.length 0 hD (Nat.le_refl _) (Nat.le_refl _) (fun _ => rfl) (fun h => absurd rfl h)
  rw [hφ] at this
  exact this
theorem atoi_seen (l : List UInt8) (n : Int) (h : Lib.atoi l = some n) (hl : l.length ≤ 18) (hmt : mt .empty true (.tup [.int .i64 n, .nili]) (.tup [.int .i64 n, .nili]) = true) : Ok 115 [.str l] (.tup [.int .i64 n, .nili]) := by
  refine ⟨⟨Tryz.f115, Tryz.func115, by kernel_rfl, by decide⟩, fun F w vals rel hrl => ?_⟩
  obtain ⟨u1, vs1, rfl, k1, hrl⟩ := hrl.cons_inv
  have e3 : vs1 = [] := List.eq_nil_of_length_eq_zero hrl.len
  subst e3
  obtain ⟨x, rfl, hx⟩ := rv_str k1
  refine Calls.mono (Tryz.strconv_Atoi x n (by rw [Lib.size_eq, hx]; exact hl) (by rw [hx]; exact h) w) ?_
  rintro e w' ⟨rfl, t, rfl⟩
  exact ⟨_, .empty, F, _, hmt, rfl, .tup _ _ rfl (fun j c u hc hu => by
    match j with
    | 0 => cases hc; cases hu; exact .int _ _
    | 1 => cases hc; cases hu; exact .nili
    | j + 2 => simp at hc), went_below rel (below_bytes w _ t)⟩
theorem index_seen (l : List UInt8) (c : Int) (n : Int) (h : Lib.indexByte l c.toNat.toUInt8 = n) (hmt : mt .empty true (.int .i64 n) (.int .i64 n) = true) : Ok 140 [.str l, .int .u8 c] (.int .i64 n) := by
  refine ⟨⟨Tryz.f140, Tryz.func140, by kernel_rfl, by decide⟩, fun F w vals rel hrl => ?_⟩
  obtain ⟨u1, vs1, rfl, k1, hrl⟩ := hrl.cons_inv
  obtain ⟨u2, vs2, rfl, k2, hrl⟩ := hrl.cons_inv
  have e3 : vs2 = [] := List.eq_nil_of_length_eq_zero hrl.len
  subst e3
  obtain ⟨x, rfl, hx⟩ := rv_str k1
  have e4 := rv_int k2
  subst e4
  refine Calls.mono (Tryz.strings_IndexByte x c w) ?_
  rintro e w' ⟨rfl, rfl⟩
  rw [hx, h]
  exact ⟨_, .empty, F, _, hmt, rfl, .int _ _, .refl rel⟩
/-- The program, compiled for the abstract machine. -/
noncomputable def code : Tab CF := prog Tryz.prog
noncomputable def base0 : CallT := qev code 1000000
theorem follows : Tryz.prog.follows .mixedOrders = true := by kernel_rfl
theorem base0_sound : SoundCall Tryz.prog base0 := by
  unfold base0 code
  rw [qev_eq]
  exact Vm.sound follows 1000000
noncomputable def two : AV := .ts [.int .u32 2] 1 1 false
theorem is_two : (base0 (.ofNat 75) [two] .empty).on false (fun v _ => v.onBool false fun b => b) = true := by kernel_rfl
theorem nat_seen : Ok 52 [two] (.str [50]) := by
  refine ⟨⟨Tryz.f52, Tryz.func52, by kernel_rfl, by decide⟩, fun F w vals rel hrl => ?_⟩
  have hrl0 := hrl
  obtain ⟨u1, vs1, rfl, k1, hrl⟩ := hrl.cons_inv
  have e3 : vs1 = [] := List.eq_nil_of_length_eq_zero hrl.len
  subst e3
  cases k1 with
  | ts _ _ _ cap' _ g off us hI hul hc hr h1 hle hcap hx hsp =>
    rcases hsp with rfl | ⟨e, _⟩
    rotate_left
    · cases e
    obtain ⟨u, rfl⟩ : ∃ u, us = [u] := List.length_eq_one_iff.1 hul
    have e4 := rv_int (hr 0 _ u rfl rfl)
    subst e4
    have hcell := hc 0 _ rfl
    have hI2 := is_two
    cases hq : base0 (.ofNat 75) [two] .empty with
    | no => rw [hq] at hI2; cases hI2
    | ok v s' =>
      rw [hq] at hI2
      have hIs : Calls Tryz.prog 75 #[.slice (some ⟨g, off, none⟩) 1 cap'] w fun e w' => e = .returned (.bool true) ∧ Below w.heap.size w w' := by
        refine Calls.mono ((base0_sound _ _ _ _ _ hq).2 F w _ rel hrl0) ?_
        rintro e w' ⟨E', u, rfl, q1, q2⟩
        refine ⟨?_, below_of q2.ext⟩
        cases v <;> first | (cases hI2; done) | skip
        rename_i b
        have hb : b = true := hI2
        subst hb
        rw [rv_bool q1]
      refine Calls.mono (nat_two w g off cap' (rel.h.seen g (hI (by simp))) hcell hIs) ?_
      rintro e w' ⟨rfl, hb⟩
      exact ⟨.str [50], .empty, F, _, by kernel_rfl, rfl, .str _ _ rfl, went_below rel hb⟩
end Go.Proofs.YtdamhfbdogkkjaaGreatDoor
