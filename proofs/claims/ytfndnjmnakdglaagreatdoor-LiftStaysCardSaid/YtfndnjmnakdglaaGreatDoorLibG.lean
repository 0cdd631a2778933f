/- Numbers that are small, texts of numbers: told. No condition. -/
import Derived.RangeFuncBox
import Derived.RangeFuncLeaves
import Derived.Shelf.Abstract
import Derived.WalkKit
import Derived.OwnWalkIn
import Derived.TacticsInMore
import Derived.LoopNIn
import Derived.LoopIn
import Derived.BigFrameIn
import Derived.RangeFuncWrites
import Derived.Test.YtfndnjmnakdglaaGreatDoorLibB
import Derived.Test.YtfndnjmnakdglaaGreatDoorProg
import Derived.Deep.Heap
import Derived.Test.YtfndnjmnakdglaaGreatDoorLibF
import Derived.Test.YtfndnjmnakdglaaGreatDoorLibR
import Derived.Test.YtfndnjmnakdglaaGreatDoorLibE
namespace Go.Proofs.YtfndnjmnakdglaaGreatDoor
open Go Go.RowKit Go.Shelf
set_option linter.unusedVariables false
set_option linter.unusedSimpArgs false
attribute [local go_sem] Oper.semAt_some
def upTo {α : Type} (f : Nat → α) (k : Nat) : List α := (List.range k).map f
theorem upTo_succ {α : Type} (f : Nat → α) (k : Nat) : upTo f (k + 1) = upTo f k ++ [f k] := by simp [upTo, List.range_succ]
theorem upTo_length {α : Type} (f : Nat → α) (k : Nat) : (upTo f k).length = k := by simp [upTo]
def bkAt (l : List Nat) (j : Nat) : Nat × Nat := (l.length - 1 - j, l[l.length - 1 - j]?.getD 0)
def KeepB (Bs n₀ : Nat) (A B : World) : Prop := Below n₀ A B ∧ ∀ v, A.cell? ⟨Bs, 0, none⟩ = some v → B.cell? ⟨Bs, 0, none⟩ = some v
theorem keepB_t {Bs n₀ : Nat} {A B C : World} (h : KeepB Bs n₀ A B) (k : KeepB Bs n₀ B C) : KeepB Bs n₀ A C := ⟨h.1.trans k.1, fun v hv => k.2 v (h.2 v hv)⟩
theorem keepB_b {Bs n₀ : Nat} {w : World} (hn : n₀ ≤ w.heap.size) (W : World) (l : Nat) (o o' : Obj) (hl : w.heap.size ≤ l) (h : W.heap[l]? = some o) (h1 : o.isCells = false) (h2 : o.isWalk = false) : KeepB Bs n₀ W (W.putObj l o') :=
  ⟨belowK_b hn W l o o' hl h h1 h2, fun v hv => cell_kept hv (grownBy_putObj' W l o') (fun r e => by cases e; exact ⟨_, h, h1⟩)⟩
set_option maxRecDepth 100000 in
set_option maxHeartbeats 2000000 in
theorem back1_in (F : Fence) (n : Nat) (h8 : F.fn 234) (hro : F.round = none) (hn : 1 ≤ n) (y Bs n₀ : Nat) (sv : Value) (l : List Nat) (hreach : l.length ≤ 1000000) (J Jx : List (Nat × Nat) → World → Prop)
    (hY : ∀ pre x W, J pre W → pre.length < l.length → YieldAt F (n - 1) Tryz.prog y #[.int .i64 (x.1 : Int), .int .u32 (x.2 : Int)] W fun e W' =>
      (e = .returned (.bool true) ∧ J (pre ++ [x]) W' ∧ KeepB Bs n₀ W W') ∨ (e = .returned (.bool false) ∧ Jx (pre ++ [x]) W'))
    (W : World) (a : Option Addr) (cap : Nat) (hBs : W.cell? ⟨Bs, 0, none⟩ = some (.slice a l.length cap)) (hc : l ≠ [] → ∃ b off, a = some ⟨b, off, none⟩ ∧ b < n₀ ∧ ∀ j, j < l.length → W.cell? ⟨b, off + j, none⟩ = some (.int .u32 ((l[j]?.getD 0 : Nat) : Int))) (h0 : J [] W) :
    CallsIn F n Tryz.prog 234 #[.func (.yield y) #[] #[], .pointer (some ⟨Bs, 0, none⟩)] W fun e W' => (∃ v, e = .returned v) ∧
      ((∃ ys, ys = upTo (bkAt l) l.length ∧ J ys W') ∨ (∃ pre, (∃ k, k ≤ l.length ∧ pre = upTo (bkAt l) k) ∧ Jx pre W')) := by
  refine callsIn_of_wp Tryz.func234 rfl h8 ?_ hro
  simp only [Tryz.ntmps234, List.size_toArray, List.length_cons, List.length_nil, Nat.reduceAdd, Nat.reduceSub, Array.replicate_succ, Array.replicate_zero, List.push_toArray, List.append_toArray, List.nil_append, List.cons_append]
  gi_wp2
  gi_loopw [3] (fun i wr => ∃ k : Nat, k ≤ l.length ∧ i = .int .i64 ((l.length : Int) - 1 - k) ∧ J (upTo (bkAt l) k) wr ∧ Below n₀ W wr ∧ wr.cell? ⟨Bs, 0, none⟩ = some (.slice a l.length cap))
    (fun i _ => (intOf i + 1).toNat)
  case atStart => exact ⟨0, Nat.zero_le _, by go_num, h0, Below.refl _ _, hBs⟩
  case round =>
    obtain ⟨k, hk, rfl, hJs, hnx, hBs'⟩ := hrel
    by_cases hlt : k < l.length
    · obtain ⟨b, off, rfl, hb, hcx⟩ := hc (by intro e; rw [e] at hlt; simp at hlt)
      have hcx' : wr.cell? ⟨b, off + (l.length - 1 - k), none⟩ = some (.int .u32 ((l[l.length - 1 - k]?.getD 0 : Nat) : Int)) := (hnx.cell (p := ⟨b, off + (l.length - 1 - k), none⟩) hb).trans (hcx _ (by omega))
      obtain ⟨fn, tmps, assign, body, hy, hR⟩ := hY _ (bkAt l k) wr hJs (by rw [upTo_length]; exact hlt)
      have ei : ((l.length : Int) - 1 - k) = ((l.length - 1 - k : Nat) : Int) := by omega
      rw [ei]
      unfold bkAt at hy
      dsimp only at hy
      gi_wp2
      refine hR.mono ?_
      rintro e W3 (⟨rfl, hJ3, hk3⟩ | ⟨rfl, hJx3⟩)
      · gi_wp2
        go_roundw
        case rel => exact ⟨k + 1, by omega, (by congr 1; first | done | (push_cast; omega) | omega), by rw [upTo_succ]; exact hJ3, hnx.trans hk3.1, hk3.2 _ hBs'⟩
        case measure => simp [intOf] <;> omega
      · gi_wp2
        refine bodyPost_ret (results_none rfl _ _ _) rfl ?_
        exact ⟨⟨_, rfl⟩, .inr ⟨_, ⟨k + 1, by omega, (upTo_succ _ _).symm⟩, hJx3⟩⟩
    · obtain rfl : k = l.length := by omega
      gi_wp2
      go_end0
      exact ⟨⟨_, rfl⟩, .inl ⟨_, rfl, hJs⟩⟩
end Go.Proofs.YtfndnjmnakdglaaGreatDoor
namespace Go.Proofs.YtfndnjmnakdglaaGreatDoor
open Go Go.RowKit Go.Shelf

set_option linter.unusedVariables false
set_option linter.unusedSimpArgs false
attribute [local go_sem] Oper.semAt_some
def Frm (a : Option Addr) (n cap : Nat) : Prop := n ≤ cap ∧ ((a = none ∧ cap = 0) ∨ ∃ g off sp, a = some ⟨g, off, sp⟩ ∧ (sp = none ∨ (n = 0 ∧ cap = 0)))
def HasN (W : World) (v : Value) (l : List Nat) : Prop := ∃ a cap, v = .slice a l.length cap ∧ (l ≠ [] → ∃ b off, a = some ⟨b, off, none⟩ ∧ b < W.heap.size ∧ ∀ j, j < l.length → W.cell? ⟨b, off + j, none⟩ = some (.int .u32 ((l[j]?.getD 0 : Nat) : Int))) ∧ Frm a l.length cap
theorem HasN.below {W W' : World} {v : Value} {l : List Nat} (h : HasN W v l) {n : Nat} (hb : Below n W W') (hn : W.heap.size ≤ n) : HasN W' v l := by
  obtain ⟨a, cap, rfl, hc, hf⟩ := h
  refine ⟨a, cap, rfl, fun h0 => ?_, hf⟩
  obtain ⟨b, off, rfl, hlt, hc⟩ := hc h0
  exact ⟨b, off, rfl, Nat.lt_of_lt_of_le hlt hb.size, fun j hj => (hb.cell (p := ⟨b, off + j, none⟩) (by show b < n; omega)).trans (hc j hj)⟩
set_option maxHeartbeats 1000000 in
theorem back_in (F : Fence) (n : Nat) (h5 : F.fn 205) (hro : F.round = none) (a : Option Addr) (len cap : Nat) (w : World) :
    CallsIn F n Tryz.prog 205 #[.slice a len cap] w fun e w' => e = .returned (.func (.func 234) #[] #[.pointer (some ⟨w.heap.size, 0, none⟩)]) ∧ w' = w.alloc (.cells #[.slice a len cap] 22) := by
  refine callsIn_of_wp Tryz.func205 rfl h5 ?_ hro
  simp only [Tryz.ntmps205, List.size_toArray, List.length_cons, List.length_nil, Nat.reduceAdd, Nat.reduceSub, Array.replicate_succ, Array.replicate_zero, List.push_toArray, List.append_toArray, List.nil_append, List.cons_append]
  gi_wp2
  go_ret
  exact ⟨rfl, rfl⟩
theorem back_stops (F : Fence) (n : Nat) (h7 : F.fn 234) (hro : F.round = none) (hn : 1 ≤ n) (Bs n₀ : Nat) (sv : Value) (l : List Nat) (hreach : l.length ≤ 1000000) (w : World) (hBs : Bs < w.heap.size) (hn₀ : n₀ ≤ w.heap.size)
    (hc : w.cell? ⟨Bs, 0, none⟩ = some sv) (hI : ∃ a cap, sv = .slice a l.length cap ∧ (l ≠ [] → ∃ b off, a = some ⟨b, off, none⟩ ∧ b < n₀ ∧ ∀ j, j < l.length → w.cell? ⟨b, off + j, none⟩ = some (.int .u32 ((l[j]?.getD 0 : Nat) : Int)))) :
    SeqStopsK F n Tryz.prog 234 #[.pointer (some ⟨Bs, 0, none⟩)] (fun x : Nat × Nat => #[Value.int .i64 (x.1 : Int), Value.int .u32 (x.2 : Int)]) (KeepB Bs n₀) (fun ys => ys = upTo (bkAt l) l.length) (fun pre => ∃ k, k ≤ l.length ∧ pre = upTo (bkAt l) k) l.length w := fun y J Jx W hW _ _ hY h0 => by
  have hc' := (hW.cell (p := ⟨Bs, 0, none⟩) hBs).trans hc
  obtain ⟨a, cap, rfl, hm⟩ := hI
  refine (back1_in F n h7 hro hn y Bs n₀ (.slice a l.length cap) l hreach J Jx hY W a cap hc' (fun hne => ?_) h0).mono fun e W' h => h
  obtain ⟨b, off, rfl, hb, hcs⟩ := hm hne
  exact ⟨b, off, rfl, hb, fun j hj => (hW.cell (p := ⟨b, off + j, none⟩) (by show b < _; omega)).trans (hcs j hj)⟩
def accU (pre : List (Nat × Nat)) : Nat := pre.foldl (fun u x => u * 1000000000 + x.2) 0
theorem accU_snoc (pre : List (Nat × Nat)) (x : Nat × Nat) : accU (pre ++ [x]) = accU pre * 1000000000 + x.2 := by simp [accU]
theorem accU_upTo (l : List Nat) (k : Nat) (hk : k ≤ l.length) : accU (upTo (bkAt l) k) = val (l.drop (l.length - k)) := by
  induction k with
  | zero => rw [Nat.sub_zero, List.drop_length]; rfl
  | succ k ih =>
    rw [upTo_succ, accU_snoc, ih (by omega)]
    have h1 : l.length - (k + 1) < l.length := by omega
    rw [List.drop_eq_getElem_cons h1, show l.length - (k + 1) + 1 = l.length - k by omega]
    show _ = l[l.length - (k + 1)] + 1000000000 * val (l.drop (l.length - k))
    have e : (bkAt l k).2 = l[l.length - (k + 1)] := by
      unfold bkAt
      show l[l.length - 1 - k]?.getD 0 = _
      rw [show l.length - 1 - k = l.length - (k + 1) by omega, List.getElem?_eq_getElem h1]; rfl
    rw [e]; omega
theorem val_drop_le (l : List Nat) (k : Nat) : val (l.drop k) ≤ val l := by
  induction k generalizing l with
  | zero => exact Nat.le_refl _
  | succ k ih =>
    cases l with
    | nil => exact Nat.le_refl _
    | cons a l =>
      have := ih l
      show val (l.drop k) ≤ a + 1000000000 * val l
      omega
def accW (pre : List (Nat × Nat)) : Int := pre.foldl (fun u x => IntKind.u64.wrap (IntKind.u64.wrap (u * 1000000000) + IntKind.u64.wrap (x.2 : Int))) 0
theorem accW_snoc (pre : List (Nat × Nat)) (x : Nat × Nat) : accW (pre ++ [x]) = IntKind.u64.wrap (IntKind.u64.wrap (accW pre * 1000000000) + IntKind.u64.wrap (x.2 : Int)) := by simp [accW]
theorem wrap_u64' {x : Int} (h0 : 0 ≤ x) (h1 : x ≤ 18446744073709551615) : IntKind.wrap .u64 x = x := by
  simp only [IntKind.wrap, IntKind.bits, IntKind.signed]
  simp
  omega
theorem accW_upTo (l : List Nat) (hm : val l ≤ 18446744073709551615) (k : Nat) (hk : k ≤ l.length) : accW (upTo (bkAt l) k) = ((accU (upTo (bkAt l) k) : Nat) : Int) := by
  induction k with
  | zero => rfl
  | succ k ih =>
    have h2 := accU_upTo l (k + 1) hk
    have h3 := val_drop_le l (l.length - (k + 1))
    rw [upTo_succ, accU_snoc] at h2
    rw [upTo_succ, accW_snoc, accU_snoc, ih (by omega)]
    have e1 : (accU (upTo (bkAt l) k) : Nat) * 1000000000 ≤ 18446744073709551615 := by omega
    have e2 : (bkAt l k).2 ≤ 18446744073709551615 := by omega
    rw [wrap_u64' (x := ((accU (upTo (bkAt l) k) : Nat) : Int) * 1000000000) (by omega) (by omega), wrap_u64' (x := (((bkAt l k).2 : Nat) : Int)) (by omega) (by omega), wrap_u64' (by omega) (by omega)]
    omega
theorem accW_all (l : List Nat) (hm : val l ≤ 18446744073709551615) : accW (upTo (bkAt l) l.length) = (val l : Int) := by
  rw [accW_upTo l hm _ (Nat.le_refl _), accU_upTo l _ (Nat.le_refl _), Nat.sub_self, List.drop_zero]
end Go.Proofs.YtfndnjmnakdglaaGreatDoor
namespace Go.Proofs.YtfndnjmnakdglaaGreatDoor
open Go Go.RowKit Go.Shelf
set_option linter.unusedVariables false
set_option linter.unusedSectionVars false
set_option linter.unusedSimpArgs false
attribute [local go_sem] Oper.semAt_some
theorem below_up3 {B C : Nat} {a b c : World} (h : Below B a b) (k : Below C b c) (hBC : B ≤ C) : Below B a c :=
  ⟨k.os.trans h.os, k.tape.trans h.tape, k.output.trans h.output, Nat.le_trans h.size k.size, fun i hi => (k.block i (by omega)).trans (h.block i hi)⟩
theorem neg_conv (v : Nat) (h : v ≤ 9223372036854775808) : wrap64 (IntKind.u64.wrap (-(v : Int))) = -(v : Int) := by
  have e : IntKind.u64.wrap (-(v : Int)) = if v = 0 then 0 else 18446744073709551616 - (v : Int) := by
    simp only [IntKind.wrap, IntKind.bits, IntKind.signed]
    simp
    split <;> omega
  rw [e]
  unfold wrap64
  split <;> omega
section
variable (w : World) (neg : Bool) (a0 : Option Addr) (n0 c0 : Nat) (L : List Nat) (hL : L.length ≤ 1000)
    (hNat : ∀ (c : Nat), c = 9223372036854775807 ∨ c = 9223372036854775808 → ∀ W, Below w.heap.size w W → Calls Tryz.prog 88 #[.int .u64 (c : Int)] W fun e W' => ∃ a k, e = .returned (.slice a (lims c).length k) ∧ HasN W' (.slice a (lims c).length k) (lims c) ∧ Below W.heap.size W W' ∧ ∀ b off sp, a = some ⟨b, off, sp⟩ → W.heap.size ≤ b)
    (hOver : ∀ (c : Nat), c = 9223372036854775807 ∨ c = 9223372036854775808 → ∀ W, Below w.heap.size w W → ∀ u1 u2, HasN W u1 L → HasN W u2 (lims c) → Calls Tryz.prog 190 #[.agg #[u1], .agg #[u2]] W fun e W' => e = .returned (.bool (decide (c < val L))) ∧ Below W.heap.size W W')
include hL hNat hOver
set_option maxHeartbeats 4000000 in
set_option maxRecDepth 100000 in
theorem small_over0 (hle : ¬ val L ≤ 9223372036854775807) (hOf : ∀ W, Below w.heap.size w W → Calls Tryz.prog 155 #[.agg #[.bool neg, .slice a0 n0 c0]] W fun e W' => ∃ a k, e = .returned (.agg #[.slice a L.length k, .bool false]) ∧ HasN W' (.slice a L.length k) L ∧ Below W.heap.size W W') :
    CallsIn Fence.wide 5 Tryz.prog 170 #[.agg #[.bool neg, .slice a0 n0 c0]] w fun e w' => e = .returned (.tuple #[.int .i64 0, .bool false]) ∧ Below w.heap.size w w' := by
  have b0 : Below w.heap.size w (w.alloc (.cells #[.bool neg, .slice a0 n0 c0] 24)) := (Below.refl _ w).alloc (Nat.le_refl _) _
  have hOf0 := hOf _ b0
  have g1 : Fence.wide.fn 155 := trivial
  have g2 : Fence.wide.fn 88 := trivial
  have g3 : Fence.wide.fn 190 := trivial
  have g4 : Fence.wide.fn 205 := trivial
  have g5 : Fence.wide.fn 234 := trivial
  refine callsIn_of_wp_marks Tryz.func170 rfl trivial ?_ rfl
  simp only [Tryz.ntmps170, List.size_toArray, List.length_cons, List.length_nil, Nat.reduceAdd, Nat.reduceSub, Array.replicate_succ, Array.replicate_zero, List.push_toArray, List.append_toArray, List.nil_append, List.cons_append]
  gi_wp2_with (gi_at_call 155; refine (callsIn_wide.2 hOf0).mono ?_)
  rintro e W1 ⟨a1, k1, rfl, hn1, b1⟩
  have sA := b1.size
  have sB := b0.size
  have bA : Below w.heap.size w (W1.alloc (.cells #[.slice a1 L.length k1, .bool false] 115)) := (below_up3 b0 b1 sB).trans (((Below.refl _ W1).alloc (Nat.le_refl _) _).mono (by omega))
  have hN0 := hNat 9223372036854775807 (.inl rfl) _ bA
  gi_wp2_with (gi_at_call 88; refine (callsIn_wide.2 hN0).mono ?_)
  rintro e W2 ⟨a2, k2, rfl, hn2, b2, _⟩
  have z1 : (W1.alloc (.cells #[.slice a1 L.length k1, .bool false] 115)).heap.size = W1.heap.size + 1 := by simp [World.alloc, -World.alloc_eq]
  have s1 := b1.size
  have s2 := b2.size
  have z0 : (w.alloc (.cells #[.bool neg, .slice a0 n0 c0] 24)).heap.size = w.heap.size + 1 := by simp [World.alloc, -World.alloc_eq]
  have b3 : Below W2.heap.size W2 (W2.alloc (.cells #[.slice a2 (lims 9223372036854775807).length k2] 113)) := (Below.refl _ W2).alloc (Nat.le_refl _) _
  have b12 : Below (W1.heap.size + 1) (W1.alloc (.cells #[.slice a1 L.length k1, .bool false] 115)) (W2.alloc (.cells #[.slice a2 (lims 9223372036854775807).length k2] 113)) := by
    have := below_up3 b2 b3 s2
    rw [z1] at this; exact this
  have hc0 : (W2.alloc (.cells #[.slice a2 (lims 9223372036854775807).length k2] 113)).cell? ⟨W1.heap.size, 0, none⟩ = some (.slice a1 L.length k1) := by
    rw [b12.cell (by show W1.heap.size < _; omega)]; simp [World.cell?, World.alloc, -World.alloc_eq]
  have hc1 : (W2.alloc (.cells #[.slice a2 (lims 9223372036854775807).length k2] 113)).cell? ⟨W1.heap.size, 1, none⟩ = some (.bool false) := by
    rw [b12.cell (by show W1.heap.size < _; omega)]; simp [World.cell?, World.alloc, -World.alloc_eq]
  have hc2 : (W2.alloc (.cells #[.slice a2 (lims 9223372036854775807).length k2] 113)).cell? ⟨W2.heap.size, 0, none⟩ = some (.slice a2 (lims 9223372036854775807).length k2) := by simp [World.cell?, World.alloc, -World.alloc_eq]
  have hn1' : HasN (W2.alloc (.cells #[.slice a2 (lims 9223372036854775807).length k2] 113)) (.slice a1 L.length k1) L := (hn1.below ((Below.refl _ W1).alloc (Nat.le_refl _) (.cells #[.slice a1 L.length k1, .bool false] 115)) (Nat.le_refl _)).below b12 (by omega)
  have hn2' := hn2.below b3 (Nat.le_refl _)
  have z2 : (W2.alloc (.cells #[.slice a2 (lims 9223372036854775807).length k2] 113)).heap.size = W2.heap.size + 1 := by simp [World.alloc, -World.alloc_eq]
  have bw : Below w.heap.size w (W2.alloc (.cells #[.slice a2 (lims 9223372036854775807).length k2] 113)) := (below_up3 b0 b1 (by omega)).trans ((((Below.refl _ W1).alloc (Nat.le_refl _) (.cells #[.slice a1 L.length k1, .bool false] 115)).trans (b12.mono (by omega))).mono (by omega))
  have hO := hOver 9223372036854775807 (.inl rfl) _ bw _ _ hn1' hn2'
  rw [show decide (9223372036854775807 < val L) = true from decide_eq_true (by omega)] at hO
  have v0 := hc0
  have v1 := hc1
  have vn := hn1'
  have vz : W2.heap.size + 1 ≤ (W2.alloc (.cells #[.slice a2 (lims 9223372036854775807).length k2] 113)).heap.size := by omega
  have vw := bw
  gi_wp2_with (gi_at_call 190; refine (callsIn_wide.2 hO).mono ?_)
  rintro e W3 ⟨rfl, b9⟩
  have b5 := vw.trans (b9.mono (by have := vw.size; omega))
  gi_wp2
  show LeavesInM Fence.wide 5 Tryz.prog Tryz.f170 _ _ _ .returning W3
  refine ⟨_, (by simp [results, Tryz.f170, go_sem]), rfl, b5⟩
set_option maxHeartbeats 4000000 in
set_option maxRecDepth 100000 in
theorem small_fits0 (hle : val L ≤ 9223372036854775807) (hOf : ∀ W, Below w.heap.size w W → Calls Tryz.prog 155 #[.agg #[.bool neg, .slice a0 n0 c0]] W fun e W' => ∃ a k, e = .returned (.agg #[.slice a L.length k, .bool false]) ∧ HasN W' (.slice a L.length k) L ∧ Below W.heap.size W W') :
    CallsIn Fence.wide 5 Tryz.prog 170 #[.agg #[.bool neg, .slice a0 n0 c0]] w fun e w' => e = .returned (.tuple #[.int .i64 ((val L : Int)), .bool true]) ∧ Below w.heap.size w w' := by
  have b0 : Below w.heap.size w (w.alloc (.cells #[.bool neg, .slice a0 n0 c0] 24)) := (Below.refl _ w).alloc (Nat.le_refl _) _
  have hOf0 := hOf _ b0
  have g1 : Fence.wide.fn 155 := trivial
  have g2 : Fence.wide.fn 88 := trivial
  have g3 : Fence.wide.fn 190 := trivial
  have g4 : Fence.wide.fn 205 := trivial
  have g5 : Fence.wide.fn 234 := trivial
  refine callsIn_of_wp_marks Tryz.func170 rfl trivial ?_ rfl
  simp only [Tryz.ntmps170, List.size_toArray, List.length_cons, List.length_nil, Nat.reduceAdd, Nat.reduceSub, Array.replicate_succ, Array.replicate_zero, List.push_toArray, List.append_toArray, List.nil_append, List.cons_append]
  gi_wp2_with (gi_at_call 155; refine (callsIn_wide.2 hOf0).mono ?_)
  rintro e W1 ⟨a1, k1, rfl, hn1, b1⟩
  have sA := b1.size
  have sB := b0.size
  have bA : Below w.heap.size w (W1.alloc (.cells #[.slice a1 L.length k1, .bool false] 115)) := (below_up3 b0 b1 sB).trans (((Below.refl _ W1).alloc (Nat.le_refl _) _).mono (by omega))
  have hN0 := hNat 9223372036854775807 (.inl rfl) _ bA
  gi_wp2_with (gi_at_call 88; refine (callsIn_wide.2 hN0).mono ?_)
  rintro e W2 ⟨a2, k2, rfl, hn2, b2, _⟩
  have z1 : (W1.alloc (.cells #[.slice a1 L.length k1, .bool false] 115)).heap.size = W1.heap.size + 1 := by simp [World.alloc, -World.alloc_eq]
  have s1 := b1.size
  have s2 := b2.size
  have z0 : (w.alloc (.cells #[.bool neg, .slice a0 n0 c0] 24)).heap.size = w.heap.size + 1 := by simp [World.alloc, -World.alloc_eq]
  have b3 : Below W2.heap.size W2 (W2.alloc (.cells #[.slice a2 (lims 9223372036854775807).length k2] 113)) := (Below.refl _ W2).alloc (Nat.le_refl _) _
  have b12 : Below (W1.heap.size + 1) (W1.alloc (.cells #[.slice a1 L.length k1, .bool false] 115)) (W2.alloc (.cells #[.slice a2 (lims 9223372036854775807).length k2] 113)) := by
    have := below_up3 b2 b3 s2
    rw [z1] at this; exact this
  have hc0 : (W2.alloc (.cells #[.slice a2 (lims 9223372036854775807).length k2] 113)).cell? ⟨W1.heap.size, 0, none⟩ = some (.slice a1 L.length k1) := by
    rw [b12.cell (by show W1.heap.size < _; omega)]; simp [World.cell?, World.alloc, -World.alloc_eq]
  have hc1 : (W2.alloc (.cells #[.slice a2 (lims 9223372036854775807).length k2] 113)).cell? ⟨W1.heap.size, 1, none⟩ = some (.bool false) := by
    rw [b12.cell (by show W1.heap.size < _; omega)]; simp [World.cell?, World.alloc, -World.alloc_eq]
  have hc2 : (W2.alloc (.cells #[.slice a2 (lims 9223372036854775807).length k2] 113)).cell? ⟨W2.heap.size, 0, none⟩ = some (.slice a2 (lims 9223372036854775807).length k2) := by simp [World.cell?, World.alloc, -World.alloc_eq]
  have hn1' : HasN (W2.alloc (.cells #[.slice a2 (lims 9223372036854775807).length k2] 113)) (.slice a1 L.length k1) L := (hn1.below ((Below.refl _ W1).alloc (Nat.le_refl _) (.cells #[.slice a1 L.length k1, .bool false] 115)) (Nat.le_refl _)).below b12 (by omega)
  have hn2' := hn2.below b3 (Nat.le_refl _)
  have z2 : (W2.alloc (.cells #[.slice a2 (lims 9223372036854775807).length k2] 113)).heap.size = W2.heap.size + 1 := by simp [World.alloc, -World.alloc_eq]
  have bw : Below w.heap.size w (W2.alloc (.cells #[.slice a2 (lims 9223372036854775807).length k2] 113)) := (below_up3 b0 b1 (by omega)).trans ((((Below.refl _ W1).alloc (Nat.le_refl _) (.cells #[.slice a1 L.length k1, .bool false] 115)).trans (b12.mono (by omega))).mono (by omega))
  have hO := hOver 9223372036854775807 (.inl rfl) _ bw _ _ hn1' hn2'
  rw [show decide (9223372036854775807 < val L) = false from decide_eq_false (by omega)] at hO
  have v0 := hc0
  have v1 := hc1
  have vn := hn1'
  have vz : W2.heap.size + 1 ≤ (W2.alloc (.cells #[.slice a2 (lims 9223372036854775807).length k2] 113)).heap.size := by omega
  have vw := bw
  gi_wp2_with (gi_at_call 190; refine (callsIn_wide.2 hO).mono ?_)
  rintro e W3 ⟨rfl, b9⟩
  have b5 := vw.trans (b9.mono (by have := vw.size; omega))
  have s9 := b9.size
  have hd0 : (W3.alloc (.cells #[.int .u64 0] 93)).cell? ⟨W1.heap.size, 0, none⟩ = some (.slice a1 L.length k1) := by
    rw [((Below.refl W3.heap.size W3).alloc (Nat.le_refl _) _).cell (by show W1.heap.size < _; omega), b9.cell (by show W1.heap.size < _; omega)]; exact v0
  have hd1 : (W3.alloc (.cells #[.int .u64 0] 93)).cell? ⟨W1.heap.size, 1, none⟩ = some (.bool false) := by
    rw [((Below.refl W3.heap.size W3).alloc (Nat.le_refl _) _).cell (by show W1.heap.size < _; omega), b9.cell (by show W1.heap.size < _; omega)]; exact v1
  gi_wp2_with (gi_at_call 205; refine (back_in Fence.wide _ g4 rfl _ _ _ _).mono ?_; rintro e w' ⟨rfl, rfl⟩)
  have bS := Boxed.new W3 93 (.int .u64 0)
  have bN := Boxed.new (W3.alloc (.cells #[.int .u64 0] 93)) 22 (.slice a1 L.length k1)
  rw [World.size_alloc] at bN
  have hB3 : Below W3.heap.size W3 ((W3.alloc (.cells #[.int .u64 0] 93)).alloc (.cells #[.slice a1 L.length k1] 22)) := ((Below.refl _ W3).alloc (Nat.le_refl _) _).alloc (by simp) _
  have hB0 : Below w.heap.size w ((W3.alloc (.cells #[.int .u64 0] 93)).alloc (.cells #[.slice a1 L.length k1] 22)) := b5.trans (hB3.mono (by have := b5.size; omega))
  have hn5 := (vn.below b9 (Nat.le_refl _))
  have hI : ∃ a cap, (.slice a1 L.length k1 : Value) = .slice a L.length cap ∧ (L ≠ [] → ∃ b off, a = some ⟨b, off, none⟩ ∧ b < W3.heap.size ∧ ∀ j, j < L.length → ((W3.alloc (.cells #[.int .u64 0] 93)).alloc (.cells #[.slice a1 L.length k1] 22)).cell? ⟨b, off + j, none⟩ = some (.int .u32 ((L[j]?.getD 0 : Nat) : Int))) := by
    obtain ⟨a, cap, e, hm, _⟩ := hn5
    refine ⟨a, cap, e, fun hne => ?_⟩
    obtain ⟨b, off, rfl, hb, hcs⟩ := hm hne
    exact ⟨b, off, rfl, hb, fun j hj => (hB3.cell (p := ⟨b, off + j, none⟩) hb).trans (hcs j hj)⟩
  refine wpIn_rangeFunc_ownG rfl (by omega) (gf := 234) (lb := #[.pointer (some ⟨W3.heap.size + 1, 0, none⟩)]) rfl g5 (enters_of Tryz.func234 (by kernel_rfl) rfl)
    (back_stops Fence.wide (5 - 1) g5 rfl (by omega) (W3.heap.size + 1) W3.heap.size _ L (by omega) _ (by simp) (by simp; omega) bN.cell hI) keepB_t (keepB_b (by simp; omega)) (Below.refl _ _) (fun _ => rfl)
    (fun pre W => (W.cell? ⟨W3.heap.size, 0, none⟩ = some (.int .u64 (accW pre)) ∧ W.frozen? ⟨W3.heap.size, 0, none⟩ = false) ∧ Below W3.heap.size W3 W)
    (fun _ _ _ => False)
    (OwnFrom.and (Own.from (fun s A B row hs hg hr => ⟨cell_kept hs.1 hg hr, (frozen_kept hs.1 hg hr).trans hs.2⟩) _) (ownFrom_below (Nat.le_refl _) (by simp; omega)))
    (fun _ _ _ _ _ hs _ _ => hs)
    ⟨⟨(bS.alloc _).cell, (bS.alloc _).frozen⟩, hB3⟩
    (fun x => { tmps := #[.agg #[.bool neg, .slice a0 n0 c0], .pointer (some ⟨w.heap.size, 0, none⟩), .int .i64 0, .bool false, .pointer (some ⟨W1.heap.size, 0, none⟩), .pointer (some ⟨W2.heap.size, 0, none⟩), .pointer (some ⟨W3.heap.size, 0, none⟩), undef, .int .u32 (x.2 : Int), .agg #[.bool neg, .slice a0 n0 c0], .agg #[.slice a1 L.length k1, .bool false], .slice a2 (lims 9223372036854775807).length k2, .agg #[.slice a2 (lims 9223372036854775807).length k2], .pointer (some ⟨W1.heap.size, 1, none⟩), .bool false, undef, undef, .pointer (some ⟨W1.heap.size, 0, none⟩), .agg #[.slice a1 L.length k1], .agg #[.slice a2 (lims 9223372036854775807).length k2], .bool false, .pointer (some ⟨W1.heap.size, 0, none⟩), .pointer (some ⟨W1.heap.size, 0, none⟩), .slice a1 L.length k1, .func (.func 234) #[] #[.pointer (some ⟨W3.heap.size + 1, 0, none⟩)], .int .i64 (x.1 : Int), .int .u32 (x.2 : Int), undef, undef, undef, undef, undef, undef, undef, undef, undef, undef, undef], defers := [] }) ?assign ?body ?done ?stop
  case assign =>
    intro l x W K hK
    gi_wp2
    exact hK
  case body =>
    rintro l pre x W ⟨⟨hc, hf⟩, hB⟩ _
    gi_wp2
    exact ⟨(KeepsOthers.setCell _ _ _).from _, ⟨(Below.refl W3.heap.size W).setCell (p := ⟨W3.heap.size, 0, none⟩) (Nat.le_refl _) _, fun v hv => (World.cell?_of_block (Go.Deep.blk_setCell_other W ⟨W3.heap.size, 0, none⟩ _ (W3.heap.size + 1) (by show W3.heap.size + 1 ≠ W3.heap.size; omega))).trans hv⟩, ⟨by rw [accW_snoc]; exact World.cell?_setCell_same' _ _ _ (by rw [hc]; rfl), by rw [World.frozen?_setCell]; exact hf⟩, hB.setCell (p := ⟨W3.heap.size, 0, none⟩) (Nat.le_refl _) _⟩
  case done =>
    rintro D ys W hD rfl ⟨⟨hc, _⟩, hB⟩ hK
    rw [accW_all L (by omega)] at hc
    have he1 : W.cell? ⟨W1.heap.size, 1, none⟩ = some (.bool false) := by
      rw [hB.cell (by show W1.heap.size < _; omega), b9.cell (by show W1.heap.size < _; omega)]; exact v1
    gi_wp2
    refine ⟨by simp, .inl ⟨_, _, rfl, run_takeDeferred hK, ?_⟩⟩
    exact ⟨_, (by simp [results, Tryz.f170, go_sem]), rfl, (b5.trans (hB.mono (by have := b5.size; omega))).trans (belowK_b (w := w) (Nat.le_refl _) W D _ _ (by simp at hD; have := b5.size; omega) hK rfl rfl)⟩
  case stop =>
    rintro D c pre W _ _ h _
    exact h.elim
set_option maxHeartbeats 4000000 in
set_option maxRecDepth 100000 in
theorem small_over1 (hle : ¬ val L ≤ 9223372036854775808) (hOf : ∀ W, Below w.heap.size w W → Calls Tryz.prog 155 #[.agg #[.bool neg, .slice a0 n0 c0]] W fun e W' => ∃ a k, e = .returned (.agg #[.slice a L.length k, .bool true]) ∧ HasN W' (.slice a L.length k) L ∧ Below W.heap.size W W') :
    CallsIn Fence.wide 5 Tryz.prog 170 #[.agg #[.bool neg, .slice a0 n0 c0]] w fun e w' => e = .returned (.tuple #[.int .i64 0, .bool false]) ∧ Below w.heap.size w w' := by
  have b0 : Below w.heap.size w (w.alloc (.cells #[.bool neg, .slice a0 n0 c0] 24)) := (Below.refl _ w).alloc (Nat.le_refl _) _
  have hOf0 := hOf _ b0
  have g1 : Fence.wide.fn 155 := trivial
  have g2 : Fence.wide.fn 88 := trivial
  have g3 : Fence.wide.fn 190 := trivial
  have g4 : Fence.wide.fn 205 := trivial
  have g5 : Fence.wide.fn 234 := trivial
  refine callsIn_of_wp_marks Tryz.func170 rfl trivial ?_ rfl
  simp only [Tryz.ntmps170, List.size_toArray, List.length_cons, List.length_nil, Nat.reduceAdd, Nat.reduceSub, Array.replicate_succ, Array.replicate_zero, List.push_toArray, List.append_toArray, List.nil_append, List.cons_append]
  gi_wp2_with (gi_at_call 155; refine (callsIn_wide.2 hOf0).mono ?_)
  rintro e W1 ⟨a1, k1, rfl, hn1, b1⟩
  have sA := b1.size
  have sB := b0.size
  have bA : Below w.heap.size w (W1.alloc (.cells #[.slice a1 L.length k1, .bool true] 115)) := (below_up3 b0 b1 sB).trans (((Below.refl _ W1).alloc (Nat.le_refl _) _).mono (by omega))
  have hN0 := hNat 9223372036854775807 (.inl rfl) _ bA
  gi_wp2_with (gi_at_call 88; refine (callsIn_wide.2 hN0).mono ?_)
  rintro e W2 ⟨a2, k2, rfl, hn2, b2, _⟩
  have z1 : (W1.alloc (.cells #[.slice a1 L.length k1, .bool true] 115)).heap.size = W1.heap.size + 1 := by simp [World.alloc, -World.alloc_eq]
  have s1 := b1.size
  have s2 := b2.size
  have z0 : (w.alloc (.cells #[.bool neg, .slice a0 n0 c0] 24)).heap.size = w.heap.size + 1 := by simp [World.alloc, -World.alloc_eq]
  have b3 : Below W2.heap.size W2 (W2.alloc (.cells #[.slice a2 (lims 9223372036854775807).length k2] 113)) := (Below.refl _ W2).alloc (Nat.le_refl _) _
  have b12 : Below (W1.heap.size + 1) (W1.alloc (.cells #[.slice a1 L.length k1, .bool true] 115)) (W2.alloc (.cells #[.slice a2 (lims 9223372036854775807).length k2] 113)) := by
    have := below_up3 b2 b3 s2
    rw [z1] at this; exact this
  have hc0 : (W2.alloc (.cells #[.slice a2 (lims 9223372036854775807).length k2] 113)).cell? ⟨W1.heap.size, 0, none⟩ = some (.slice a1 L.length k1) := by
    rw [b12.cell (by show W1.heap.size < _; omega)]; simp [World.cell?, World.alloc, -World.alloc_eq]
  have hc1 : (W2.alloc (.cells #[.slice a2 (lims 9223372036854775807).length k2] 113)).cell? ⟨W1.heap.size, 1, none⟩ = some (.bool true) := by
    rw [b12.cell (by show W1.heap.size < _; omega)]; simp [World.cell?, World.alloc, -World.alloc_eq]
  have hc2 : (W2.alloc (.cells #[.slice a2 (lims 9223372036854775807).length k2] 113)).cell? ⟨W2.heap.size, 0, none⟩ = some (.slice a2 (lims 9223372036854775807).length k2) := by simp [World.cell?, World.alloc, -World.alloc_eq]
  have hn1' : HasN (W2.alloc (.cells #[.slice a2 (lims 9223372036854775807).length k2] 113)) (.slice a1 L.length k1) L := (hn1.below ((Below.refl _ W1).alloc (Nat.le_refl _) (.cells #[.slice a1 L.length k1, .bool true] 115)) (Nat.le_refl _)).below b12 (by omega)
  have hn2' := hn2.below b3 (Nat.le_refl _)
  have z2 : (W2.alloc (.cells #[.slice a2 (lims 9223372036854775807).length k2] 113)).heap.size = W2.heap.size + 1 := by simp [World.alloc, -World.alloc_eq]
  have bw : Below w.heap.size w (W2.alloc (.cells #[.slice a2 (lims 9223372036854775807).length k2] 113)) := (below_up3 b0 b1 (by omega)).trans ((((Below.refl _ W1).alloc (Nat.le_refl _) (.cells #[.slice a1 L.length k1, .bool true] 115)).trans (b12.mono (by omega))).mono (by omega))
  have hN1 := hNat 9223372036854775808 (.inr rfl) _ bw
  gi_wp2_with (gi_at_call 88; refine (callsIn_wide.2 hN1).mono ?_)
  rintro e W4 ⟨a4, k4, rfl, hn4, b4, hf4⟩
  have s4 := b4.size
  have bx : Boxed (W2.alloc (.cells #[.slice a2 (lims 9223372036854775807).length k2] 113)) W2.heap.size 113 (.slice a2 (lims 9223372036854775807).length k2) := Boxed.new _ _ _
  have bx4 : Boxed W4 W2.heap.size 113 (.slice a2 (lims 9223372036854775807).length k2) := (b4.block W2.heap.size (by omega)).trans bx
  have v0 : (W4.setCell ⟨W2.heap.size, 0, none⟩ (.slice a4 (lims 9223372036854775808).length k4)).cell? ⟨W1.heap.size, 0, none⟩ = some (.slice a1 L.length k1) := by
    rw [World.cell?_of_block (Go.Deep.blk_setCell_other W4 ⟨W2.heap.size, 0, none⟩ _ W1.heap.size (by show W1.heap.size ≠ W2.heap.size; omega)), (b4.cell (p := ⟨W1.heap.size, 0, none⟩) (by show W1.heap.size < _; omega))]; exact hc0
  have v1 : (W4.setCell ⟨W2.heap.size, 0, none⟩ (.slice a4 (lims 9223372036854775808).length k4)).cell? ⟨W1.heap.size, 1, none⟩ = some (.bool true) := by
    rw [World.cell?_of_block (Go.Deep.blk_setCell_other W4 ⟨W2.heap.size, 0, none⟩ _ W1.heap.size (by show W1.heap.size ≠ W2.heap.size; omega)), (b4.cell (p := ⟨W1.heap.size, 1, none⟩) (by show W1.heap.size < _; omega))]; exact hc1
  have p2 : (W4.setCell ⟨W2.heap.size, 0, none⟩ (.slice a4 (lims 9223372036854775808).length k4)).cell? ⟨W2.heap.size, 0, none⟩ = some (.slice a4 (lims 9223372036854775808).length k4) :=
    World.cell?_setCell_same' _ _ _ (by rw [bx4.cell]; rfl)
  have q1 := bx4.cell
  have q3 := bx4.frozen
  have bS : Below W2.heap.size W4 (W4.setCell ⟨W2.heap.size, 0, none⟩ (.slice a4 (lims 9223372036854775808).length k4)) := (Below.refl _ W4).setCell (p := ⟨W2.heap.size, 0, none⟩) (Nat.le_refl _) _
  have sS := bS.size
  have w4 := hn1'.below b4 (Nat.le_refl _)
  have hn1w : HasN W2 (.slice a1 L.length k1) L := (hn1.below ((Below.refl _ W1).alloc (Nat.le_refl _) (.cells #[.slice a1 L.length k1, .bool true] 115)) (Nat.le_refl _)).below b2 (by omega)
  have vn : HasN (W4.setCell ⟨W2.heap.size, 0, none⟩ (.slice a4 (lims 9223372036854775808).length k4)) (.slice a1 L.length k1) L := (hn1w.below ((b3.trans (b4.mono (by omega))).trans bS) (Nat.le_refl _))
  have hn4' : HasN (W4.setCell ⟨W2.heap.size, 0, none⟩ (.slice a4 (lims 9223372036854775808).length k4)) (.slice a4 (lims 9223372036854775808).length k4) (lims 9223372036854775808) := by
    obtain ⟨a, cap, e, hm, hfm⟩ := hn4
    obtain ⟨rfl, rfl⟩ : a4 = a ∧ k4 = cap := by cases e; exact ⟨rfl, rfl⟩
    refine ⟨a4, k4, rfl, fun hne => ?_, hfm⟩
    obtain ⟨b, off, rfl, hb, hcs⟩ := hm hne
    have hfb := hf4 b off none rfl
    refine ⟨b, off, rfl, by omega, fun j hj => ?_⟩
    rw [World.cell?_of_block (Go.Deep.blk_setCell_other W4 ⟨W2.heap.size, 0, none⟩ _ b (by show b ≠ W2.heap.size; omega))]
    exact hcs j hj
  have vz : W2.heap.size + 1 ≤ (W4.setCell ⟨W2.heap.size, 0, none⟩ (.slice a4 (lims 9223372036854775808).length k4)).heap.size := by omega
  have vw : Below w.heap.size w (W4.setCell ⟨W2.heap.size, 0, none⟩ (.slice a4 (lims 9223372036854775808).length k4)) := (bw.trans (b4.mono (by have := bw.size; omega))).trans (bS.mono (by omega))
  have hO := hOver 9223372036854775808 (.inr rfl) _ vw _ _ vn hn4'
  rw [show decide (9223372036854775808 < val L) = true from decide_eq_true (by omega)] at hO
  clear hc0 hc1 hc2 hn1' hn2' bw
  gi_wp2_with (gi_at_call 190; refine (callsIn_wide.2 hO).mono ?_)
  rintro e W3 ⟨rfl, b9⟩
  have b5 := vw.trans (b9.mono (by have := vw.size; omega))
  gi_wp2
  show LeavesInM Fence.wide 5 Tryz.prog Tryz.f170 _ _ _ .returning W3
  refine ⟨_, (by simp [results, Tryz.f170, go_sem]), rfl, b5⟩
set_option maxHeartbeats 4000000 in
set_option maxRecDepth 100000 in
theorem small_fits1 (hle : val L ≤ 9223372036854775808) (hOf : ∀ W, Below w.heap.size w W → Calls Tryz.prog 155 #[.agg #[.bool neg, .slice a0 n0 c0]] W fun e W' => ∃ a k, e = .returned (.agg #[.slice a L.length k, .bool true]) ∧ HasN W' (.slice a L.length k) L ∧ Below W.heap.size W W') :
    CallsIn Fence.wide 5 Tryz.prog 170 #[.agg #[.bool neg, .slice a0 n0 c0]] w fun e w' => e = .returned (.tuple #[.int .i64 (-(val L : Int)), .bool true]) ∧ Below w.heap.size w w' := by
  have b0 : Below w.heap.size w (w.alloc (.cells #[.bool neg, .slice a0 n0 c0] 24)) := (Below.refl _ w).alloc (Nat.le_refl _) _
  have hOf0 := hOf _ b0
  have g1 : Fence.wide.fn 155 := trivial
  have g2 : Fence.wide.fn 88 := trivial
  have g3 : Fence.wide.fn 190 := trivial
  have g4 : Fence.wide.fn 205 := trivial
  have g5 : Fence.wide.fn 234 := trivial
  refine callsIn_of_wp_marks Tryz.func170 rfl trivial ?_ rfl
  simp only [Tryz.ntmps170, List.size_toArray, List.length_cons, List.length_nil, Nat.reduceAdd, Nat.reduceSub, Array.replicate_succ, Array.replicate_zero, List.push_toArray, List.append_toArray, List.nil_append, List.cons_append]
  gi_wp2_with (gi_at_call 155; refine (callsIn_wide.2 hOf0).mono ?_)
  rintro e W1 ⟨a1, k1, rfl, hn1, b1⟩
  have sA := b1.size
  have sB := b0.size
  have bA : Below w.heap.size w (W1.alloc (.cells #[.slice a1 L.length k1, .bool true] 115)) := (below_up3 b0 b1 sB).trans (((Below.refl _ W1).alloc (Nat.le_refl _) _).mono (by omega))
  have hN0 := hNat 9223372036854775807 (.inl rfl) _ bA
  gi_wp2_with (gi_at_call 88; refine (callsIn_wide.2 hN0).mono ?_)
  rintro e W2 ⟨a2, k2, rfl, hn2, b2, _⟩
  have z1 : (W1.alloc (.cells #[.slice a1 L.length k1, .bool true] 115)).heap.size = W1.heap.size + 1 := by simp [World.alloc, -World.alloc_eq]
  have s1 := b1.size
  have s2 := b2.size
  have z0 : (w.alloc (.cells #[.bool neg, .slice a0 n0 c0] 24)).heap.size = w.heap.size + 1 := by simp [World.alloc, -World.alloc_eq]
  have b3 : Below W2.heap.size W2 (W2.alloc (.cells #[.slice a2 (lims 9223372036854775807).length k2] 113)) := (Below.refl _ W2).alloc (Nat.le_refl _) _
  have b12 : Below (W1.heap.size + 1) (W1.alloc (.cells #[.slice a1 L.length k1, .bool true] 115)) (W2.alloc (.cells #[.slice a2 (lims 9223372036854775807).length k2] 113)) := by
    have := below_up3 b2 b3 s2
    rw [z1] at this; exact this
  have hc0 : (W2.alloc (.cells #[.slice a2 (lims 9223372036854775807).length k2] 113)).cell? ⟨W1.heap.size, 0, none⟩ = some (.slice a1 L.length k1) := by
    rw [b12.cell (by show W1.heap.size < _; omega)]; simp [World.cell?, World.alloc, -World.alloc_eq]
  have hc1 : (W2.alloc (.cells #[.slice a2 (lims 9223372036854775807).length k2] 113)).cell? ⟨W1.heap.size, 1, none⟩ = some (.bool true) := by
    rw [b12.cell (by show W1.heap.size < _; omega)]; simp [World.cell?, World.alloc, -World.alloc_eq]
  have hc2 : (W2.alloc (.cells #[.slice a2 (lims 9223372036854775807).length k2] 113)).cell? ⟨W2.heap.size, 0, none⟩ = some (.slice a2 (lims 9223372036854775807).length k2) := by simp [World.cell?, World.alloc, -World.alloc_eq]
  have hn1' : HasN (W2.alloc (.cells #[.slice a2 (lims 9223372036854775807).length k2] 113)) (.slice a1 L.length k1) L := (hn1.below ((Below.refl _ W1).alloc (Nat.le_refl _) (.cells #[.slice a1 L.length k1, .bool true] 115)) (Nat.le_refl _)).below b12 (by omega)
  have hn2' := hn2.below b3 (Nat.le_refl _)
  have z2 : (W2.alloc (.cells #[.slice a2 (lims 9223372036854775807).length k2] 113)).heap.size = W2.heap.size + 1 := by simp [World.alloc, -World.alloc_eq]
  have bw : Below w.heap.size w (W2.alloc (.cells #[.slice a2 (lims 9223372036854775807).length k2] 113)) := (below_up3 b0 b1 (by omega)).trans ((((Below.refl _ W1).alloc (Nat.le_refl _) (.cells #[.slice a1 L.length k1, .bool true] 115)).trans (b12.mono (by omega))).mono (by omega))
  have hN1 := hNat 9223372036854775808 (.inr rfl) _ bw
  gi_wp2_with (gi_at_call 88; refine (callsIn_wide.2 hN1).mono ?_)
  rintro e W4 ⟨a4, k4, rfl, hn4, b4, hf4⟩
  have s4 := b4.size
  have bx : Boxed (W2.alloc (.cells #[.slice a2 (lims 9223372036854775807).length k2] 113)) W2.heap.size 113 (.slice a2 (lims 9223372036854775807).length k2) := Boxed.new _ _ _
  have bx4 : Boxed W4 W2.heap.size 113 (.slice a2 (lims 9223372036854775807).length k2) := (b4.block W2.heap.size (by omega)).trans bx
  have v0 : (W4.setCell ⟨W2.heap.size, 0, none⟩ (.slice a4 (lims 9223372036854775808).length k4)).cell? ⟨W1.heap.size, 0, none⟩ = some (.slice a1 L.length k1) := by
    rw [World.cell?_of_block (Go.Deep.blk_setCell_other W4 ⟨W2.heap.size, 0, none⟩ _ W1.heap.size (by show W1.heap.size ≠ W2.heap.size; omega)), (b4.cell (p := ⟨W1.heap.size, 0, none⟩) (by show W1.heap.size < _; omega))]; exact hc0
  have v1 : (W4.setCell ⟨W2.heap.size, 0, none⟩ (.slice a4 (lims 9223372036854775808).length k4)).cell? ⟨W1.heap.size, 1, none⟩ = some (.bool true) := by
    rw [World.cell?_of_block (Go.Deep.blk_setCell_other W4 ⟨W2.heap.size, 0, none⟩ _ W1.heap.size (by show W1.heap.size ≠ W2.heap.size; omega)), (b4.cell (p := ⟨W1.heap.size, 1, none⟩) (by show W1.heap.size < _; omega))]; exact hc1
  have p2 : (W4.setCell ⟨W2.heap.size, 0, none⟩ (.slice a4 (lims 9223372036854775808).length k4)).cell? ⟨W2.heap.size, 0, none⟩ = some (.slice a4 (lims 9223372036854775808).length k4) :=
    World.cell?_setCell_same' _ _ _ (by rw [bx4.cell]; rfl)
  have q1 := bx4.cell
  have q3 := bx4.frozen
  have bS : Below W2.heap.size W4 (W4.setCell ⟨W2.heap.size, 0, none⟩ (.slice a4 (lims 9223372036854775808).length k4)) := (Below.refl _ W4).setCell (p := ⟨W2.heap.size, 0, none⟩) (Nat.le_refl _) _
  have sS := bS.size
  have w4 := hn1'.below b4 (Nat.le_refl _)
  have hn1w : HasN W2 (.slice a1 L.length k1) L := (hn1.below ((Below.refl _ W1).alloc (Nat.le_refl _) (.cells #[.slice a1 L.length k1, .bool true] 115)) (Nat.le_refl _)).below b2 (by omega)
  have vn : HasN (W4.setCell ⟨W2.heap.size, 0, none⟩ (.slice a4 (lims 9223372036854775808).length k4)) (.slice a1 L.length k1) L := (hn1w.below ((b3.trans (b4.mono (by omega))).trans bS) (Nat.le_refl _))
  have hn4' : HasN (W4.setCell ⟨W2.heap.size, 0, none⟩ (.slice a4 (lims 9223372036854775808).length k4)) (.slice a4 (lims 9223372036854775808).length k4) (lims 9223372036854775808) := by
    obtain ⟨a, cap, e, hm, hfm⟩ := hn4
    obtain ⟨rfl, rfl⟩ : a4 = a ∧ k4 = cap := by cases e; exact ⟨rfl, rfl⟩
    refine ⟨a4, k4, rfl, fun hne => ?_, hfm⟩
    obtain ⟨b, off, rfl, hb, hcs⟩ := hm hne
    have hfb := hf4 b off none rfl
    refine ⟨b, off, rfl, by omega, fun j hj => ?_⟩
    rw [World.cell?_of_block (Go.Deep.blk_setCell_other W4 ⟨W2.heap.size, 0, none⟩ _ b (by show b ≠ W2.heap.size; omega))]
    exact hcs j hj
  have vz : W2.heap.size + 1 ≤ (W4.setCell ⟨W2.heap.size, 0, none⟩ (.slice a4 (lims 9223372036854775808).length k4)).heap.size := by omega
  have vw : Below w.heap.size w (W4.setCell ⟨W2.heap.size, 0, none⟩ (.slice a4 (lims 9223372036854775808).length k4)) := (bw.trans (b4.mono (by have := bw.size; omega))).trans (bS.mono (by omega))
  have hO := hOver 9223372036854775808 (.inr rfl) _ vw _ _ vn hn4'
  rw [show decide (9223372036854775808 < val L) = false from decide_eq_false (by omega)] at hO
  clear hc0 hc1 hc2 hn1' hn2' bw
  gi_wp2_with (gi_at_call 190; refine (callsIn_wide.2 hO).mono ?_)
  rintro e W3 ⟨rfl, b9⟩
  have b5 := vw.trans (b9.mono (by have := vw.size; omega))
  have s9 := b9.size
  have hd0 : (W3.alloc (.cells #[.int .u64 0] 93)).cell? ⟨W1.heap.size, 0, none⟩ = some (.slice a1 L.length k1) := by
    rw [((Below.refl W3.heap.size W3).alloc (Nat.le_refl _) _).cell (by show W1.heap.size < _; omega), b9.cell (by show W1.heap.size < _; omega)]; exact v0
  have hd1 : (W3.alloc (.cells #[.int .u64 0] 93)).cell? ⟨W1.heap.size, 1, none⟩ = some (.bool true) := by
    rw [((Below.refl W3.heap.size W3).alloc (Nat.le_refl _) _).cell (by show W1.heap.size < _; omega), b9.cell (by show W1.heap.size < _; omega)]; exact v1
  gi_wp2_with (gi_at_call 205; refine (back_in Fence.wide _ g4 rfl _ _ _ _).mono ?_; rintro e w' ⟨rfl, rfl⟩)
  have bS := Boxed.new W3 93 (.int .u64 0)
  have bN := Boxed.new (W3.alloc (.cells #[.int .u64 0] 93)) 22 (.slice a1 L.length k1)
  rw [World.size_alloc] at bN
  have hB3 : Below W3.heap.size W3 ((W3.alloc (.cells #[.int .u64 0] 93)).alloc (.cells #[.slice a1 L.length k1] 22)) := ((Below.refl _ W3).alloc (Nat.le_refl _) _).alloc (by simp) _
  have hB0 : Below w.heap.size w ((W3.alloc (.cells #[.int .u64 0] 93)).alloc (.cells #[.slice a1 L.length k1] 22)) := b5.trans (hB3.mono (by have := b5.size; omega))
  have hn5 := (vn.below b9 (Nat.le_refl _))
  have hI : ∃ a cap, (.slice a1 L.length k1 : Value) = .slice a L.length cap ∧ (L ≠ [] → ∃ b off, a = some ⟨b, off, none⟩ ∧ b < W3.heap.size ∧ ∀ j, j < L.length → ((W3.alloc (.cells #[.int .u64 0] 93)).alloc (.cells #[.slice a1 L.length k1] 22)).cell? ⟨b, off + j, none⟩ = some (.int .u32 ((L[j]?.getD 0 : Nat) : Int))) := by
    obtain ⟨a, cap, e, hm, _⟩ := hn5
    refine ⟨a, cap, e, fun hne => ?_⟩
    obtain ⟨b, off, rfl, hb, hcs⟩ := hm hne
    exact ⟨b, off, rfl, hb, fun j hj => (hB3.cell (p := ⟨b, off + j, none⟩) hb).trans (hcs j hj)⟩
  refine wpIn_rangeFunc_ownG rfl (by omega) (gf := 234) (lb := #[.pointer (some ⟨W3.heap.size + 1, 0, none⟩)]) rfl g5 (enters_of Tryz.func234 (by kernel_rfl) rfl)
    (back_stops Fence.wide (5 - 1) g5 rfl (by omega) (W3.heap.size + 1) W3.heap.size _ L (by omega) _ (by simp) (by simp; omega) bN.cell hI) keepB_t (keepB_b (by simp; omega)) (Below.refl _ _) (fun _ => rfl)
    (fun pre W => (W.cell? ⟨W3.heap.size, 0, none⟩ = some (.int .u64 (accW pre)) ∧ W.frozen? ⟨W3.heap.size, 0, none⟩ = false) ∧ Below W3.heap.size W3 W)
    (fun _ _ _ => False)
    (OwnFrom.and (Own.from (fun s A B row hs hg hr => ⟨cell_kept hs.1 hg hr, (frozen_kept hs.1 hg hr).trans hs.2⟩) _) (ownFrom_below (Nat.le_refl _) (by simp; omega)))
    (fun _ _ _ _ _ hs _ _ => hs)
    ⟨⟨(bS.alloc _).cell, (bS.alloc _).frozen⟩, hB3⟩
    (fun x => { tmps := #[.agg #[.bool neg, .slice a0 n0 c0], .pointer (some ⟨w.heap.size, 0, none⟩), .int .i64 0, .bool false, .pointer (some ⟨W1.heap.size, 0, none⟩), .pointer (some ⟨W2.heap.size, 0, none⟩), .pointer (some ⟨W3.heap.size, 0, none⟩), undef, .int .u32 (x.2 : Int), .agg #[.bool neg, .slice a0 n0 c0], .agg #[.slice a1 L.length k1, .bool true], .slice a2 (lims 9223372036854775807).length k2, .agg #[.slice a2 (lims 9223372036854775807).length k2], .pointer (some ⟨W1.heap.size, 1, none⟩), .bool true, .slice a4 (lims 9223372036854775808).length k4, .agg #[.slice a4 (lims 9223372036854775808).length k4], .pointer (some ⟨W1.heap.size, 0, none⟩), .agg #[.slice a1 L.length k1], .agg #[.slice a4 (lims 9223372036854775808).length k4], .bool false, .pointer (some ⟨W1.heap.size, 0, none⟩), .pointer (some ⟨W1.heap.size, 0, none⟩), .slice a1 L.length k1, .func (.func 234) #[] #[.pointer (some ⟨W3.heap.size + 1, 0, none⟩)], .int .i64 (x.1 : Int), .int .u32 (x.2 : Int), undef, undef, undef, undef, undef, undef, undef, undef, undef, undef, undef], defers := [] }) ?assign ?body ?done ?stop
  case assign =>
    intro l x W K hK
    gi_wp2
    exact hK
  case body =>
    rintro l pre x W ⟨⟨hc, hf⟩, hB⟩ _
    gi_wp2
    exact ⟨(KeepsOthers.setCell _ _ _).from _, ⟨(Below.refl W3.heap.size W).setCell (p := ⟨W3.heap.size, 0, none⟩) (Nat.le_refl _) _, fun v hv => (World.cell?_of_block (Go.Deep.blk_setCell_other W ⟨W3.heap.size, 0, none⟩ _ (W3.heap.size + 1) (by show W3.heap.size + 1 ≠ W3.heap.size; omega))).trans hv⟩, ⟨by rw [accW_snoc]; exact World.cell?_setCell_same' _ _ _ (by rw [hc]; rfl), by rw [World.frozen?_setCell]; exact hf⟩, hB.setCell (p := ⟨W3.heap.size, 0, none⟩) (Nat.le_refl _) _⟩
  case done =>
    rintro D ys W hD rfl ⟨⟨hc, hf⟩, hB⟩ hK
    rw [accW_all L (by omega)] at hc
    have he1 : W.cell? ⟨W1.heap.size, 1, none⟩ = some (.bool true) := by
      rw [hB.cell (by show W1.heap.size < _; omega), b9.cell (by show W1.heap.size < _; omega)]; exact v1
    gi_wp2
    have hK2 := (KeepsOthers.setCell W ⟨W3.heap.size, 0, none⟩ (.int .u64 (IntKind.u64.wrap (-(val L : Int))))).same D _ hK rfl
    refine ⟨by simp, .inl ⟨_, _, rfl, run_takeDeferred hK2, ?_⟩⟩
    exact ⟨.tuple #[.int .i64 (wrap64 (IntKind.u64.wrap (-(val L : Int)))), .bool true], (by simp [results, Tryz.f170, go_sem]), by rw [neg_conv _ hle], (b5.trans ((hB.setCell (p := ⟨W3.heap.size, 0, none⟩) (Nat.le_refl _) _).mono (by have := b5.size; omega))).trans (belowK_b (w := w) (Nat.le_refl _) _ D _ _ (by simp at hD; have := b5.size; omega) hK2 rfl rfl)⟩
  case stop =>
    rintro D c pre W _ _ h _
    exact h.elim
end
end Go.Proofs.YtfndnjmnakdglaaGreatDoor
namespace Go.Proofs.YtfndnjmnakdglaaGreatDoor
open Go Go.Vm Go.Shelf Go.Lib
open Go.RowKit (Below)
set_option linter.unusedVariables false
set_option linter.unusedSectionVars false
theorem nats_model {s : St} {E : Env} {w : World} {v : AV} {u : Value} {l : List Nat} (rel : RelH s.obj E w) (h : Nats s v l) (k : RV E w v u) : ∃ a cap, u = .slice a l.length cap ∧ l.length ≤ cap ∧ ((a = none ∧ cap = 0) ∨ ∃ g off sp, a = some ⟨g, off, sp⟩ ∧ (sp = none ∨ (l.length = 0 ∧ cap = 0 ∧ True))) ∧ (l ≠ [] → ∃ g off, a = some ⟨g, off, none⟩ ∧ g < w.heap.size ∧ ∀ i (hi : i < l.length), w.cell? ⟨g, off + i, none⟩ = some (.int .u32 (l[i] : Int))) := by
  obtain ⟨hsl, hlen, hel⟩ := h
  have hne : ∀ {i : Nat}, i < l.length → l ≠ [] := fun {i} hi e => by rw [e] at hi; simp at hi
  cases hsl with
  | nils =>
    have h0 : l.length = 0 := hlen.symm
    cases k
    exact ⟨none, 0, by rw [h0], by omega, .inl ⟨rfl, rfl⟩, fun hn => absurd (List.eq_nil_of_length_eq_zero h0) hn⟩
  | ts cs len cap ex hm ho =>
    have hl : len = l.length := hlen
    subst hl
    cases k with
    | ts _ _ _ cap' _ g off us hI hul hc hr h1 hle hcap hx hsp =>
      refine ⟨_, cap', rfl, hle, .inr ⟨_, _, _, rfl, hsp.imp id fun h => ⟨h.1, h.2.1, trivial⟩⟩, fun hn => ?_⟩
      have h0 := hne (i := 0) (by cases l <;> simp_all)
      have hcs : cs ≠ [] := by
        intro e
        subst e
        obtain ⟨t, ht⟩ := hel 0 (by cases l <;> simp_all)
        simp [rowOf] at ht
        cases ht
      rcases hsp with rfl | ⟨_, _, e⟩
      · refine ⟨_, _, rfl, rel.seen _ (hI hcs), fun i hi => ?_⟩
        obtain ⟨t, ht⟩ := hel i hi
        have hrow : rowOf s (.ts cs l.length cap ex) = cs := rfl
        rw [hrow, Nat.mul_one] at ht
        have hci : cs[i]? = some (.int .u32 (l[i] : Int)) := by
          have := congrArg List.head? ht
          simpa [List.head?_drop] using this
        obtain ⟨u, hu, hru⟩ := (RL.mk (E := E) (w := w) hul hr).get hci
        have e4 := rv_int hru
        subst e4
        exact hc i _ hu
      · exact absurd e hcs
  | sl b o len cap ex cs hm hob hb hoo =>
    have hl : len = l.length := hlen
    subst hl
    cases k with
    | sl _ _ _ _ cap' _ hD hle hcc hx hs =>
      refine ⟨_, cap', rfl, by omega, .inr ⟨_, _, _, rfl, .inl rfl⟩, fun hn => ⟨_, _, rfl, ?_, fun i hi => ?_⟩⟩
      · exact rel.block_lt (by rw [hob]; intro h; cases h)
      · obtain ⟨t, ht⟩ := hel i hi
        have hrow : rowOf s (.sl b o l.length cap ex) = cs.drop o := by show (s.obj b).row.drop o = _; rw [hob]; rfl
        rw [hrow, Nat.mul_one, List.drop_drop] at ht
        obtain ⟨c, e, us, H⟩ := rel.cells b cs hob
        have hci : cs[o + i]? = some (.int .u32 (l[i] : Int)) := by
          have := congrArg List.head? ht
          simpa [List.head?_drop] using this
        obtain ⟨u, hu, hru⟩ := H.row.get hci
        have hcu := H.at_ _ _ hu
        have e4 := rv_int hru
        subst e4
        have : w.cell? ⟨(E.φ b).block, (E.φ b).off + o + i, none⟩ = c[(E.φ b).off + (o + i)]? := by
          simp [World.cell?, H.heap, Nat.add_assoc]
        rw [this]; exact hcu
theorem nats_uniq {s : St} {v : AV} {l m : List Nat} (h : Nats s v l) (k : Nats s v m) : l = m := by
  have hl : l.length = m.length := h.len.symm.trans k.len
  refine List.ext_getElem hl fun i h1 h2 => ?_
  obtain ⟨t, ht⟩ := h.el i h1
  obtain ⟨t', ht'⟩ := k.el i h2
  rw [ht] at ht'
  injection ht' with e _
  injection e with _ e
  omega
theorem hasN_of {s : St} {E : Env} {w : World} {v : AV} {u : Value} {l : List Nat} (rel : RelH s.obj E w) (h : Nats s v l) (k : RV E w v u) : HasN w u l := by
  obtain ⟨a, cap, rfl, hcap, hfm, hmem⟩ := nats_model rel h k
  refine ⟨a, cap, rfl, fun hne => ?_, hcap, hfm.imp id fun ⟨g, off, sp, e, h⟩ => ⟨g, off, sp, e, h.imp id fun h => ⟨h.1, h.2.1⟩⟩⟩
  obtain ⟨g, off, rfl, hg, hcell⟩ := hmem hne
  exact ⟨g, off, rfl, hg, fun j hj => by rw [List.getElem?_eq_getElem hj]; exact hcell j hj⟩
theorem hasN_av {w : World} {u : Value} {l : List Nat} (h : HasN w u l) (hl : l.length ≤ 140737488355328) : ∃ v, Nats .empty v l ∧ RV (E1 w) w v u := by
  haveI : Tel := T0
  obtain ⟨a, cap, rfl, hmem, hcap, hfm⟩ := h
  by_cases h0 : l = []
  · subst h0
    rcases hfm with ⟨rfl, rfl⟩ | ⟨g, off, sp, rfl, hsp⟩
    · exact ⟨.nils, nats_nil _, .nils⟩
    · exact ⟨.ts [] 0 0 false, nats_ts [] (by simp) 0 false, .ts [] 0 0 cap false g off [] (fun h => absurd rfl h) rfl (fun j u hu => by simp at hu) (fun j c u hc hu => by simp at hu) (fun c hc => by simp at hc) (by simp) (by simp) (by simp) (hsp := hsp.imp id fun h => ⟨rfl, h.2, rfl⟩)⟩
  · obtain ⟨g, off, rfl, hg2, hcell⟩ := hmem h0
    refine ⟨_, nats_ts l hl l.length false, ?_⟩
    refine .ts _ _ _ cap false g off (l.map fun n : Nat => Value.int .u32 (n : Int)) (fun _ => hg2) (by simp [cellsN]) (fun j u hu => ?_) (fun j c u hc hu => ?_) (by simp [cellsN]; intro a _; rfl) hcap (by omega) (by simp)
    · rw [List.getElem?_map] at hu
      obtain ⟨n, hn, rfl⟩ := Option.map_eq_some_iff.1 hu
      obtain ⟨hj, rfl⟩ := List.getElem?_eq_some_iff.1 hn
      have := hcell j hj
      rw [List.getElem?_eq_getElem hj] at this
      exact this
    · rw [List.getElem?_map] at hu
      unfold cellsN at hc
      rw [List.getElem?_map] at hc
      obtain ⟨n, hn, rfl⟩ := Option.map_eq_some_iff.1 hu
      rw [hn] at hc
      cases hc
      exact .int _ _
def zInt (z : Z) : Int := if (zh z).neg = true then -(val (zh z).mag : Int) else (val (zh z).mag : Int)
def fitsB (z : Z) : Bool := if (zh z).neg = true then decide (val (zh z).mag ≤ 9223372036854775808) else decide (val (zh z).mag ≤ 9223372036854775807)
def smallV (z : Z) : Int := if fitsB z = true then zInt z else 0
structure ToSmall (a : List AV) (s : St) (z : Z) : Prop where
  args : ∃ n m, a = [.agg [n, m]] ∧ RZ s n m z
  len : z.mag.length ≤ 1000
open Classical in
noncomputable def Small_B : List AV → St → R := fun a s => if h : ∃ z, ToSmall a s z then .ok (.tup [.int .i64 (smallV h.choose), .bool (fitsB h.choose)]) s else .no
theorem rz_uniq {s : St} {n m : AV} {z y : Z} (h : RZ s n m z) (k : RZ s n m y) : z = y := by
  have e1 := h.neg
  rw [k.neg] at e1
  injection e1 with e1
  have e2 := nats_uniq h.mag k.mag
  cases z; cases y; simp only at e1 e2; subst e1 e2; rfl
theorem small_B_ok {s : St} {n m : AV} {z : Z} (h : RZ s n m z) (hl : z.mag.length ≤ 1000) : Small_B [.agg [n, m]] s = .ok (.tup [.int .i64 (smallV z), .bool (fitsB z)]) s := by
  have hx : ∃ z, ToSmall [.agg [n, m]] s z := ⟨z, ⟨⟨n, m, rfl, h⟩, hl⟩⟩
  unfold Small_B
  rw [dif_pos hx]
  obtain ⟨n', m', e, h'⟩ := hx.choose_spec.args
  simp only [List.cons.injEq, AV.agg.injEq, and_true] at e
  obtain ⟨rfl, rfl⟩ := e
  rw [rz_uniq h' h]
noncomputable def code0 : Tab CF := prog Tryz.prog
noncomputable def base0 : CallT := qev code0 1000000
theorem base0_sound [Lay] [Bare] : SoundCall Tryz.prog base0 := by
  unfold base0 code0
  rw [qev_eq]
  exact Vm.sound follows 1000000
theorem lims63 : lims 9223372036854775807 = [854775807, 223372036, 9] := by
  haveI : Tel := T0
  rw [lims_pos (by omega), lims_pos (by omega), lims_pos (by omega)]; simp [lims_0]
theorem lims64 : lims 9223372036854775808 = [854775808, 223372036, 9] := by
  haveI : Tel := T0
  rw [lims_pos (by omega), lims_pos (by omega), lims_pos (by omega)]; simp [lims_0]
theorem of63 : sees base0 (.ofNat 88) ([.int .u64 9223372036854775807], .ts (cellsN [854775807, 223372036, 9]) 3 3 false) = true := by kernel_rfl
theorem of64 : sees base0 (.ofNat 88) ([.int .u64 9223372036854775808], .ts (cellsN [854775808, 223372036, 9]) 3 3 false) = true := by kernel_rfl
theorem rel_emp [Lay] [Bare] {w : World} {I : Nat → Prop} (hI : ∀ k, I k → k < w.heap.size) (φ : Vm.Id → Addr) : RelH St.empty.obj ⟨φ, I, fun _ => False⟩ w := by
  have hd : ∀ b, St.empty.obj b = .dead := empty_obj
  exact ⟨(fun b cs h => by rw [hd] at h; cases h), (fun b es h => by rw [hd] at h; cases h), fun b h => absurd (hd b) h, fun b c h => absurd (hd b) h, fun b h => absurd (hd b) h, hI⟩
abbrev TabsIn [Lay] (w : World) : Prop := ∀ k p, (k, p) ∈ Lay.tabs → k < w.heap.size ∧ p w.heap[k]?
theorem TabsIn.below [Lay] {w W : World} (h : TabsIn w) (hb : Below w.heap.size w W) : TabsIn W := fun k p hm => ⟨Nat.lt_of_lt_of_le (h k p hm).1 hb.size, by rw [hb.block k (h k p hm).1]; exact (h k p hm).2⟩
theorem nat_of [Lay] [Bare] {c : Int} {l : List Nat} (hs : sees base0 (.ofNat 88) ([.int .u64 c], .ts (cellsN l) l.length l.length false) = true) (hne : l ≠ []) (hl : l.length ≤ 1000) (W : World) (hw : TabsIn W) :
    Calls Tryz.prog 88 #[.int .u64 c] W fun e W' => ∃ a k, e = .returned (.slice a l.length k) ∧ HasN W' (.slice a l.length k) l ∧ Below W.heap.size W W' ∧ ∀ b off sp, a = some ⟨b, off, sp⟩ → W.heap.size ≤ b := by
  haveI : Tel := T0
  obtain ⟨r0, s1, h1, h2⟩ := sees_ok hs
  have ev : (Vm.Id.ofNat 88).val = 88 := by kernel_rfl
  have hb := (base0_sound _ _ _ _ _ h1).2 E00 W [.int .u64 c] (rel_empty hw) (RL.cons (.int _ _) (RL.nil _ _))
  rw [ev] at hb
  refine Calls.mono hb ?_
  rintro e w' ⟨E1, v, rfl, k1, k2⟩
  have hdead : ∀ b, St.empty.obj b = .dead := empty_obj
  have hnew : ∀ b, s1.obj b ≠ .dead → W.heap.size ≤ (E1.φ b).block ∧ (E1.φ b).block < w'.heap.size := fun b hb => by
    refine ⟨?_, k2.rel.h.block_lt hb⟩
    rcases k2.ext.new b hb with ⟨c, hc, _⟩ | hge
    · exact absurd (hdead c) hc
    · exact hge
  have hv : RV ⟨E1.φ, fun k => ∃ b, s1.obj b ≠ .dead ∧ (E1.φ b).block = k, fun _ => False⟩ w' (.ts (cellsN l) l.length l.length false) v := (mt_rv (F := ⟨E1.φ, fun k => ∃ b, s1.obj b ≠ .dead ∧ (E1.φ b).block = k, fun _ => False⟩) (own := true) k2.rel.h (fun b hb => ⟨b, hb, rfl⟩) (fun h => by cases h) (SizeOf.sizeOf _)).1 _ _ (Nat.le_refl _) h2 v k1
  have hR := rel_emp (w := w') (I := fun k => ∃ b, s1.obj b ≠ .dead ∧ (E1.φ b).block = k) (fun k ⟨b, hb, e⟩ => by rw [← e]; exact (hnew b hb).2) E1.φ
  have hN := hasN_of hR (nats_ts l (by omega) l.length false) hv
  have hbel := below_of k2.ext
  cases hv with
  | ts _ _ _ cap' _ g off us hI hul hc hr h1 hle hcap hx hsp =>
    refine ⟨_, cap', rfl, hN, hbel, fun b off' sp e => ?_⟩
    cases e
    obtain ⟨x, hx1, hx2⟩ := hI (by unfold cellsN; simpa using hne)
    have := (hnew x hx1).1
    rw [hx2] at this; exact this
theorem over_k [L : Lay] [Bare] (hL : L.tabs = tab10) (W : World) (hw : TabsIn W) {u1 u2 : Value} {l m : List Nat} (h1 : HasN W u1 l) (h2 : HasN W u2 m) (hl : l.length ≤ 1000) (hm : m.length ≤ 1000) :
    Calls Tryz.prog 190 #[.agg #[u1], .agg #[u2]] W fun e W' => e = .returned (.bool (decide (vh m < vh l))) ∧ Below W.heap.size W W' := by
  haveI : Tel := T0
  obtain ⟨v1, n1, r1⟩ := hasN_av h1 (by omega)
  obtain ⟨v2, n2, r2⟩ := hasN_av h2 (by omega)
  have hc := @over_ok T0 .empty v1 v2 l m room_empty (by show (0 : Nat) + _ + _ ≤ _; omega) n1 n2
  have hg : F.whole_size_over.val = 190 := by kernel_rfl
  have o1 := n1.one
  have o2 := n2.one
  have hs := (@ca_sound _ T0 hL (no_sound1 _) (no_sound1 _) (no_sound1 _) (no_sound1 _) _ _ _ _ _ hc).2 (E1 W) W _ (rel_in hw) (RL.cons (.agg [v1] [u1] rfl (RL.cons r1 (RL.nil _ _)).each (by simpa using o1)) (RL.cons (.agg [v2] [u2] rfl (RL.cons r2 (RL.nil _ _)).each (by simpa using o2)) (RL.nil _ _)))
  rw [hg] at hs
  refine Calls.mono hs ?_
  rintro e w' ⟨E', u, rfl, q1, q2⟩
  have q3 := rv_bool q1
  subst q3
  exact ⟨rfl, below_of q2.ext⟩
theorem of_k [L : Lay] [Bare] (hL : L.tabs = tab10) (W : World) (hw : TabsIn W) {sv : Value} {neg : Bool} {l : List Nat} (h1 : HasN W sv l) (hl : l.length ≤ 1000) :
    Calls Tryz.prog 155 #[.agg #[.bool neg, sv]] W fun e W' => ∃ a k, e = .returned (.agg #[.slice a (zh ⟨neg, l⟩).mag.length k, .bool (zh ⟨neg, l⟩).neg]) ∧ HasN W' (.slice a (zh ⟨neg, l⟩).mag.length k) (zh ⟨neg, l⟩).mag ∧ Below W.heap.size W W' := by
  haveI : Tel := T0
  obtain ⟨v1, n1, r1⟩ := hasN_av h1 (by omega)
  have hz : RZ .empty (.bool neg) v1 ⟨neg, l⟩ := ⟨rfl, n1⟩
  have hc := @of_ok T0 .empty (.bool neg) v1 ⟨neg, l⟩ room_empty (by show (0 : Nat) ≤ _; omega) hz
  have hg : F.whole_of.val = 155 := by kernel_rfl
  have o1 := n1.one
  have hs := (@ca_sound _ T0 hL (no_sound1 _) (no_sound1 _) (no_sound1 _) (no_sound1 _) _ _ _ _ _ hc).2 (E1 W) W _ (rel_in hw) (RL.cons (.agg [.bool neg, v1] [.bool neg, sv] rfl (RL.cons (.bool _) (RL.cons r1 (RL.nil _ _))).each (by simpa [AV.one] using o1)) (RL.nil _ _))
  rw [hg] at hs
  refine Calls.mono hs ?_
  rintro e w' ⟨E', u, rfl, q1, q2⟩
  have hrz := zh_rep hz
  rw [if_cells2] at q1
  have hbel := below_of q2.ext
  have hR : RelH St.empty.obj E' w' := q2.rel.h
  cases q1 with
  | agg _ us hul hr h1 =>
    obtain ⟨x, y, rfl⟩ : ∃ x y, us = [x, y] := by
      match us, hul with
      | [x, y], _ => exact ⟨x, y, rfl⟩
    have rx := hr 0 _ x rfl rfl
    have ry := hr 1 _ y rfl rfl
    have e1 := hrz.neg
    have rn := hasN_of hR hrz.mag (by simpa using rx)
    rw [show (if zIs ⟨neg, l⟩ = true then AV.bool neg else AV.bool false) = .bool (zh ⟨neg, l⟩).neg from e1] at ry
    have e2 := rv_bool ry
    subst e2
    obtain ⟨a, cap, rfl, h3⟩ := rn
    exact ⟨a, cap, rfl, ⟨a, cap, rfl, h3⟩, hbel⟩
end Go.Proofs.YtfndnjmnakdglaaGreatDoor
namespace Go.Proofs.YtfndnjmnakdglaaGreatDoor
open Go Go.Vm Go.Shelf Go.Lib
open Go.RowKit (Below)
set_option linter.unusedVariables false
set_option linter.unusedSectionVars false
theorem small_k [L : Lay] [Bare] (hL : L.tabs = tab10) (w : World) (hw : TabsIn w) {sv : Value} {neg : Bool} {l : List Nat} (h1 : HasN w sv l) (hl : l.length ≤ 1000) :
    Calls Tryz.prog 170 #[.agg #[.bool neg, sv]] w fun e w' => e = .returned (.tuple #[.int .i64 (smallV ⟨neg, l⟩), .bool (fitsB ⟨neg, l⟩)]) ∧ Below w.heap.size w w' := by
  haveI : Tel := T0
  obtain ⟨a0, c0, rfl, h1'⟩ := h1
  have hzl : (zh ⟨neg, l⟩).mag.length ≤ 1000 := Nat.le_trans (zh_len ⟨neg, l⟩) hl
  have hnat := zh_nat ⟨neg, l⟩
  have hv : vh (zh ⟨neg, l⟩).mag = val (zh ⟨neg, l⟩).mag := vh_of hnat
  have hOf : ∀ W, Below w.heap.size w W → Calls Tryz.prog 155 #[.agg #[.bool neg, .slice a0 l.length c0]] W fun e W' => ∃ a k, e = .returned (.agg #[.slice a (zh ⟨neg, l⟩).mag.length k, .bool (zh ⟨neg, l⟩).neg]) ∧ HasN W' (.slice a (zh ⟨neg, l⟩).mag.length k) (zh ⟨neg, l⟩).mag ∧ Below W.heap.size W W' :=
    fun W hb => of_k hL W (hw.below hb) (HasN.below (⟨a0, c0, rfl, h1'⟩ : HasN w _ l) hb (Nat.le_refl _)) hl
  have hNat : ∀ (c : Nat), c = 9223372036854775807 ∨ c = 9223372036854775808 → ∀ W, TabsIn W → Calls Tryz.prog 88 #[.int .u64 (c : Int)] W fun e W' => ∃ a k, e = .returned (.slice a (lims c).length k) ∧ HasN W' (.slice a (lims c).length k) (lims c) ∧ Below W.heap.size W W' ∧ ∀ b off sp, a = some ⟨b, off, sp⟩ → W.heap.size ≤ b := by
    rintro c (rfl | rfl) W hW
    · rw [lims63]; exact nat_of of63 (by simp) (by simp) W hW
    · rw [lims64]; exact nat_of of64 (by simp) (by simp) W hW
  have hOver : ∀ (c : Nat), c = 9223372036854775807 ∨ c = 9223372036854775808 → ∀ W, TabsIn W → ∀ u1 u2, HasN W u1 (zh ⟨neg, l⟩).mag → HasN W u2 (lims c) → Calls Tryz.prog 190 #[.agg #[u1], .agg #[u2]] W fun e W' => e = .returned (.bool (decide (c < val (zh ⟨neg, l⟩).mag))) ∧ Below W.heap.size W W' := by
    intro c hc W hW u1 u2 g1 g2
    have hlc : (lims c).length ≤ 1000 := by rcases hc with rfl | rfl <;> simp [lims63, lims64]
    have := over_k hL W hW g1 g2 hzl hlc
    rw [vh_of (lims_is c), val_lims, hv] at this
    exact this
  have hN2 : ∀ (c : Nat), c = 9223372036854775807 ∨ c = 9223372036854775808 → ∀ W, Below w.heap.size w W → _ := fun c hc W hb => hNat c hc W (hw.below hb)
  have hO2 : ∀ (c : Nat), c = 9223372036854775807 ∨ c = 9223372036854775808 → ∀ W, Below w.heap.size w W → ∀ u1 u2, HasN W u1 (zh ⟨neg, l⟩).mag → HasN W u2 (lims c) → _ := fun c hc W hb u1 u2 g1 g2 => hOver c hc W (hw.below hb) u1 u2 g1 g2
  cases hneg : (zh ⟨neg, l⟩).neg with
  | false =>
    rw [hneg] at hOf
    by_cases hle : val (zh ⟨neg, l⟩).mag ≤ 9223372036854775807
    · have hf : fitsB ⟨neg, l⟩ = true := by unfold fitsB; rw [if_neg (by rw [hneg]; decide)]; exact decide_eq_true hle
      have hs : smallV ⟨neg, l⟩ = (val (zh ⟨neg, l⟩).mag : Int) := by unfold smallV zInt; rw [if_pos hf, if_neg (by rw [hneg]; decide)]
      rw [hf, hs]
      exact callsIn_wide.1 (small_fits0 w neg a0 l.length c0 _ hzl hN2 hO2 hle hOf)
    · have hf : fitsB ⟨neg, l⟩ = false := by unfold fitsB; rw [if_neg (by rw [hneg]; decide)]; exact decide_eq_false hle
      have hs : smallV ⟨neg, l⟩ = 0 := by unfold smallV; rw [if_neg (by rw [hf]; decide)]
      rw [hf, hs]
      exact callsIn_wide.1 (small_over0 w neg a0 l.length c0 _ hzl hN2 hO2 hle hOf)
  | true =>
    rw [hneg] at hOf
    by_cases hle : val (zh ⟨neg, l⟩).mag ≤ 9223372036854775808
    · have hf : fitsB ⟨neg, l⟩ = true := by unfold fitsB; rw [if_pos hneg]; exact decide_eq_true hle
      have hs : smallV ⟨neg, l⟩ = -(val (zh ⟨neg, l⟩).mag : Int) := by unfold smallV zInt; rw [if_pos hf, if_pos hneg]
      rw [hf, hs]
      exact callsIn_wide.1 (small_fits1 w neg a0 l.length c0 _ hzl hN2 hO2 hle hOf)
    · have hf : fitsB ⟨neg, l⟩ = false := by unfold fitsB; rw [if_pos hneg]; exact decide_eq_false hle
      have hs : smallV ⟨neg, l⟩ = 0 := by unfold smallV; rw [if_neg (by rw [hf]; decide)]
      rw [hf, hs]
      exact callsIn_wide.1 (small_over1 w neg a0 l.length c0 _ hzl hN2 hO2 hle hOf)
theorem small_sound1 [L : Lay] [Bare] (hL : L.tabs = tab10) : Sound1 F.whole_Small Small_B := by
  intro args s r s' h
  have ev : F.whole_Small.val = 170 := by kernel_rfl
  have hx : ∃ z, ToSmall args s z := by
    apply Classical.byContradiction
    intro hn
    unfold Small_B at h
    rw [dif_neg hn] at h
    exact R.noConfusion h
  obtain ⟨z, ⟨⟨n, m, rfl, hz⟩, hl⟩⟩ := hx
  rw [small_B_ok hz hl] at h
  obtain ⟨rfl, rfl⟩ := ok_inj h
  refine ⟨⟨Tryz.f170, by rw [ev]; exact Tryz.func170, by kernel_rfl, by decide⟩, fun E w vals rel hrl => ?_⟩
  obtain ⟨u, vs1, rfl, k1, hrl⟩ := hrl.cons_inv
  have e3 : vs1 = [] := List.eq_nil_of_length_eq_zero hrl.len
  subst e3
  rw [ev]
  have en := hz.neg
  subst en
  cases k1 with
  | agg _ us hul hr h1 =>
    obtain ⟨x, y, rfl⟩ : ∃ x y, us = [x, y] := by
      match us, hul with
      | [x, y], _ => exact ⟨x, y, rfl⟩
    have rx := rv_bool (hr 0 _ x rfl rfl)
    subst rx
    have ry := hasN_of rel.h hz.mag (hr 1 _ y rfl rfl)
    have hw : TabsIn w := fun k p hm => ⟨rel.h.seen k (rel.laid.tabs k p hm).1, (rel.laid.tabs k p hm).2⟩
    refine Calls.mono (small_k hL w hw ry hl) ?_
    rintro e w' ⟨rfl, hb⟩
    refine ⟨E, _, rfl, .tup _ _ rfl (fun j c u hc hu => ?_), went_below rel hb⟩
    match j with
    | 0 => cases hc; cases hu; exact .int _ _
    | 1 => cases hc; cases hu; exact .bool _
    | j + 2 => simp at hc
end Go.Proofs.YtfndnjmnakdglaaGreatDoor
namespace Go.Proofs.YtfndnjmnakdglaaGreatDoor
open Go Go.Vm Go.Shelf Go.Lib
open Go.RowKit (Below)
set_option linter.unusedVariables false
set_option linter.unusedSectionVars false
structure ToText (a : List AV) (s : St) (l : List Nat) : Prop where
  args : ∃ v, a = [v] ∧ Nats s v l
  len : l.length ≤ 100
open Classical in
noncomputable def Nat_B : List AV → St → R := fun a s => if h : ∃ l, ToText a s l then .ok (.str (decDigits (vh h.choose))) s else .no
theorem nat_B_ok {s : St} {v : AV} {l : List Nat} (h : Nats s v l) (hl : l.length ≤ 100) : Nat_B [v] s = .ok (.str (decDigits (vh l))) s := by
  have hx : ∃ l, ToText [v] s l := ⟨l, ⟨⟨v, rfl, h⟩, hl⟩⟩
  unfold Nat_B
  rw [dif_pos hx]
  obtain ⟨v', e, h'⟩ := hx.choose_spec.args
  injection e with e _
  subst e
  rw [nats_uniq h' h]
theorem nat_sound1 [L : Lay] [Bare] (hL : L.tabs = tab10) : Sound1 F.digits_Nat Nat_B := by
  haveI : Tel := T0
  intro args s r s' h
  have ev : F.digits_Nat.val = 51 := by kernel_rfl
  have hx : ∃ l, ToText args s l := by
    apply Classical.byContradiction
    intro hn
    unfold Nat_B at h
    rw [dif_neg hn] at h
    exact R.noConfusion h
  obtain ⟨l, ⟨⟨v, rfl, hv⟩, hl⟩⟩ := hx
  rw [nat_B_ok hv hl] at h
  obtain ⟨rfl, rfl⟩ := ok_inj h
  refine ⟨⟨Tryz.f51, by rw [ev]; exact Tryz.func51, by kernel_rfl, by decide⟩, fun E w vals rel hrl => ?_⟩
  obtain ⟨u, vs1, rfl, k1, hrl⟩ := hrl.cons_inv
  have e3 : vs1 = [] := List.eq_nil_of_length_eq_zero hrl.len
  subst e3
  rw [ev]
  have htab := tab_of hL rel.laid
  obtain ⟨a, cap, rfl, hcap, hfm, hmem⟩ := nats_model rel.h hv k1
  -- nat.Is, from nothing
  have hIs : Calls Tryz.prog 83 #[.slice a l.length cap] w fun e w' => e = .returned (.bool (natIs l)) ∧ Below w.heap.size w w' := by
    obtain ⟨v', hv', hrv⟩ : ∃ v', Nats .empty v' l ∧ RV (E1 w) w v' (.slice a l.length cap) := by
      by_cases h0 : l = []
      · subst h0
        rcases hfm with ⟨rfl, rfl⟩ | ⟨g, off, sp, rfl, hsp⟩
        · exact ⟨.nils, nats_nil _, .nils⟩
        · exact ⟨.ts [] 0 0 false, nats_ts [] (by simp) 0 false, .ts [] 0 0 cap false g off [] (fun h => absurd rfl h) rfl (fun j u hu => by simp at hu) (fun j c u hc hu => by simp at hu) (fun c hc => by simp at hc) (by simp) (by simp) (by simp) (hsp := hsp.imp id fun h => ⟨rfl, h.2.1, rfl⟩)⟩
      · obtain ⟨g, off, rfl, hg2, hcell⟩ := hmem h0
        refine ⟨_, nats_ts l (by omega) l.length false, ?_⟩
        refine .ts _ _ _ cap false g off (l.map fun n : Nat => Value.int .u32 (n : Int)) (fun _ => hg2) (by simp [cellsN]) (fun j u hu => ?_) (fun j c u hc hu => ?_) (by simp [cellsN]; intro a _; rfl) hcap (by omega) (by simp)
        · rw [List.getElem?_map] at hu
          obtain ⟨n, hn, rfl⟩ := Option.map_eq_some_iff.1 hu
          obtain ⟨hj, rfl⟩ := List.getElem?_eq_some_iff.1 hn
          exact hcell j hj
        · rw [List.getElem?_map] at hu
          unfold cellsN at hc
          rw [List.getElem?_map] at hc
          obtain ⟨n, hn, rfl⟩ := Option.map_eq_some_iff.1 hu
          rw [hn] at hc
          cases hc
          exact .int _ _
    have hc := @natIs_ok T0 .empty v' l hv'
    have hrel : Rel St.empty (E1 w) w := rel_in fun k p hm => ⟨rel.h.seen k (rel.laid.tabs k p hm).1, (rel.laid.tabs k p hm).2⟩
    have hg : F.nat_Is.val = 83 := by kernel_rfl
    have hs := (@ca_sound _ T0 hL (no_sound1 _) (no_sound1 _) (no_sound1 _) (no_sound1 _) _ _ _ _ _ hc).2 (E1 w) w _ hrel (RL.cons hrv (RL.nil _ _))
    rw [hg] at hs
    refine Calls.mono hs ?_
    rintro e w' ⟨E', u, rfl, q1, q2⟩
    have q3 := rv_bool q1
    subst q3
    exact ⟨rfl, below_of q2.ext⟩
  by_cases h1 : natIs l = true ∧ l ≠ []
  · obtain ⟨g, off, rfl, hg2, hcell⟩ := hmem h1.2
    refine Calls.mono (nat_walk w htab g off cap l hg2 (by omega) h1.2 h1.1 hcell hIs) ?_
    rintro e w' ⟨rfl, hb⟩
    refine ⟨E, _, rfl, .str _ _ ?_, went_below rel hb⟩
    have : vh l = val l := by unfold vh hd; rw [if_pos h1.1]
    simp [this]
  · have h48 : Calls Tryz.prog 51 #[.slice a l.length cap] w fun e w' => e = .returned (.string ⟨#[48]⟩) ∧ Below w.heap.size w w' := by
      by_cases h3 : natIs l = true
      · have h4 : l = [] := by
          apply Classical.byContradiction
          exact fun h4 => h1 ⟨h3, h4⟩
        rw [h3] at hIs
        subst h4
        exact nat_walk00 w a cap hIs
      · rw [Bool.not_eq_true] at h3
        rw [h3] at hIs
        exact nat_walk0 w a _ cap hIs
    refine Calls.mono h48 ?_
    rintro e w' ⟨rfl, hb⟩
    refine ⟨E, _, rfl, .str _ _ ?_, went_below rel hb⟩
    have : vh l = 0 := by
      unfold vh hd
      by_cases h3 : natIs l = true
      · have h4 : l = [] := by
          apply Classical.byContradiction
          exact fun h4 => h1 ⟨h3, h4⟩
        subst h4; rfl
      · rw [if_neg h3]; rfl
    rw [this, dec_small (by omega)]
    rfl
end Go.Proofs.YtfndnjmnakdglaaGreatDoor
