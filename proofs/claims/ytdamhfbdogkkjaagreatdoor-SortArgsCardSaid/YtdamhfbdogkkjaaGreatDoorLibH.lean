/- Functions of the program: more. No condition. -/
import Derived.Test.YtdamhfbdogkkjaaGreatDoorLibD
namespace Go.Proofs.YtdamhfbdogkkjaaGreatDoor.sortArgs
open Go Go.Vm
set_option linter.unusedVariables false
set_option maxRecDepth 100000
noncomputable def law : CF := (Vm.Id.ofNat 5).get code
theorem law_mk : law = .mk law.nt law.res law.body := by kernel_rfl
noncomputable def c1 : CC := law.body.snd
noncomputable def c2 : CC := c1.snd
noncomputable def c3 : CC := c2.snd
theorem body_seq : law.body = .seq law.body.fst law.body.snd := by kernel_rfl
theorem c1_seq : c1 = .seq c1.fst c1.snd := by kernel_rfl
theorem c2_seq : c2 = .seq c2.fst c2.snd := by kernel_rfl
noncomputable def at_ (k : Nat) (v : AV) (f : Fr AV) : Fr AV := (Sl.ofNat k).set v f
noncomputable def f1 (x y : Int) (b : Bool) : Fr AV := at_ 6 (.bool false) (frame0 [.int .u8 x, .int .u8 y, .bool b])
noncomputable def f2 (x y : Int) (b : Bool) : Fr AV := at_ 18 (.bool false) (at_ 17 (.bool true) (f1 x y b))
noncomputable def f3 (x y : Int) (b : Bool) (k j : Int) : Fr AV := at_ 8 (.int .i64 (wr .i64 j)) (at_ 7 (.int .i64 (wr .i64 k)) (at_ 24 (.int .i64 (wr .i64 j)) (at_ 23 (.int .u8 j) (at_ 22 (.int .u8 y) (at_ 21 (.int .i64 (wr .i64 k)) (at_ 20 (.int .u8 k) (at_ 19 (.int .u8 x) (f2 x y b))))))))
theorem s0 (x y : Int) (b : Bool) : excode base3 1000000 law.body.fst (frame0 [.int .u8 x, .int .u8 y, .bool b]) .empty = .nor (f1 x y b) .empty := by kernel_rfl
theorem s1 (x y : Int) (b : Bool) : excode base3 1000000 c1.fst (f1 x y b) .empty = .nor (f2 x y b) .empty := by kernel_rfl
theorem s2 (x y : Int) (b : Bool) : excode base3 1000000 c2.fst (f2 x y b) .empty = .nor (f3 x y b (x.tmod 4) (y.tmod 5)) .empty := by kernel_rfl
theorem begun (x y : Int) (b : Bool) : evF base3 1000000 law [.int .u8 x, .int .u8 y, .bool b] .empty = fin law.res (excode base3 1000000 c3 (f3 x y b (x.tmod 4) (y.tmod 5)) .empty) := by
  rw [evF_mk law_mk (by kernel_rfl), seq_nor body_seq (s0 x y b)]
  show fin _ (excode base3 1000000 c1 (f1 x y b) .empty) = _
  rw [seq_nor c1_seq (s1 x y b)]
  show fin _ (excode base3 1000000 c2 (f2 x y b) .empty) = _
  rw [seq_nor c2_seq (s2 x y b)]
  rfl
theorem r_true_0_0 (x y : Int) : says true (fin law.res (excode base3 1000000 c3 (f3 x y true 0 0) .empty)) = true := by kernel_rfl
theorem r_true_0_1 (x y : Int) : says true (fin law.res (excode base3 1000000 c3 (f3 x y true 0 1) .empty)) = true := by kernel_rfl
theorem r_true_0_2 (x y : Int) : says true (fin law.res (excode base3 1000000 c3 (f3 x y true 0 2) .empty)) = true := by kernel_rfl
theorem r_true_0_3 (x y : Int) : says true (fin law.res (excode base3 1000000 c3 (f3 x y true 0 3) .empty)) = true := by kernel_rfl
theorem r_true_0_4 (x y : Int) : says true (fin law.res (excode base3 1000000 c3 (f3 x y true 0 4) .empty)) = true := by kernel_rfl
theorem r_true_1_0 (x y : Int) : says true (fin law.res (excode base3 1000000 c3 (f3 x y true 1 0) .empty)) = true := by kernel_rfl
theorem r_true_1_1 (x y : Int) : says true (fin law.res (excode base3 1000000 c3 (f3 x y true 1 1) .empty)) = true := by kernel_rfl
theorem r_true_1_2 (x y : Int) : says true (fin law.res (excode base3 1000000 c3 (f3 x y true 1 2) .empty)) = true := by kernel_rfl
theorem r_true_1_3 (x y : Int) : says true (fin law.res (excode base3 1000000 c3 (f3 x y true 1 3) .empty)) = true := by kernel_rfl
theorem r_true_1_4 (x y : Int) : says true (fin law.res (excode base3 1000000 c3 (f3 x y true 1 4) .empty)) = true := by kernel_rfl
theorem r_true_2_0 (x y : Int) : says true (fin law.res (excode base3 1000000 c3 (f3 x y true 2 0) .empty)) = true := by kernel_rfl
theorem r_true_2_1 (x y : Int) : says true (fin law.res (excode base3 1000000 c3 (f3 x y true 2 1) .empty)) = true := by kernel_rfl
theorem r_true_2_2 (x y : Int) : says true (fin law.res (excode base3 1000000 c3 (f3 x y true 2 2) .empty)) = true := by kernel_rfl
theorem r_true_2_3 (x y : Int) : says true (fin law.res (excode base3 1000000 c3 (f3 x y true 2 3) .empty)) = true := by kernel_rfl
theorem r_true_2_4 (x y : Int) : says true (fin law.res (excode base3 1000000 c3 (f3 x y true 2 4) .empty)) = true := by kernel_rfl
theorem r_true_3_0 (x y : Int) : says true (fin law.res (excode base3 1000000 c3 (f3 x y true 3 0) .empty)) = true := by kernel_rfl
theorem r_true_3_1 (x y : Int) : says true (fin law.res (excode base3 1000000 c3 (f3 x y true 3 1) .empty)) = true := by kernel_rfl
theorem r_true_3_2 (x y : Int) : says true (fin law.res (excode base3 1000000 c3 (f3 x y true 3 2) .empty)) = true := by kernel_rfl
theorem r_true_3_3 (x y : Int) : says true (fin law.res (excode base3 1000000 c3 (f3 x y true 3 3) .empty)) = true := by kernel_rfl
theorem r_true_3_4 (x y : Int) : says true (fin law.res (excode base3 1000000 c3 (f3 x y true 3 4) .empty)) = true := by kernel_rfl
theorem r_false_0_0 (x y : Int) : says true (fin law.res (excode base3 1000000 c3 (f3 x y false 0 0) .empty)) = true := by kernel_rfl
theorem r_false_0_1 (x y : Int) : says true (fin law.res (excode base3 1000000 c3 (f3 x y false 0 1) .empty)) = true := by kernel_rfl
theorem r_false_0_2 (x y : Int) : says true (fin law.res (excode base3 1000000 c3 (f3 x y false 0 2) .empty)) = true := by kernel_rfl
theorem r_false_0_3 (x y : Int) : says true (fin law.res (excode base3 1000000 c3 (f3 x y false 0 3) .empty)) = true := by kernel_rfl
theorem r_false_0_4 (x y : Int) : says true (fin law.res (excode base3 1000000 c3 (f3 x y false 0 4) .empty)) = true := by kernel_rfl
theorem r_false_1_0 (x y : Int) : says true (fin law.res (excode base3 1000000 c3 (f3 x y false 1 0) .empty)) = true := by kernel_rfl
theorem r_false_1_1 (x y : Int) : says true (fin law.res (excode base3 1000000 c3 (f3 x y false 1 1) .empty)) = true := by kernel_rfl
theorem r_false_1_2 (x y : Int) : says true (fin law.res (excode base3 1000000 c3 (f3 x y false 1 2) .empty)) = true := by kernel_rfl
theorem r_false_1_3 (x y : Int) : says true (fin law.res (excode base3 1000000 c3 (f3 x y false 1 3) .empty)) = true := by kernel_rfl
theorem r_false_1_4 (x y : Int) : says true (fin law.res (excode base3 1000000 c3 (f3 x y false 1 4) .empty)) = true := by kernel_rfl
theorem r_false_2_0 (x y : Int) : says true (fin law.res (excode base3 1000000 c3 (f3 x y false 2 0) .empty)) = true := by kernel_rfl
theorem r_false_2_1 (x y : Int) : says true (fin law.res (excode base3 1000000 c3 (f3 x y false 2 1) .empty)) = true := by kernel_rfl
theorem r_false_2_2 (x y : Int) : says true (fin law.res (excode base3 1000000 c3 (f3 x y false 2 2) .empty)) = true := by kernel_rfl
theorem r_false_2_3 (x y : Int) : says true (fin law.res (excode base3 1000000 c3 (f3 x y false 2 3) .empty)) = true := by kernel_rfl
theorem r_false_2_4 (x y : Int) : says true (fin law.res (excode base3 1000000 c3 (f3 x y false 2 4) .empty)) = true := by kernel_rfl
theorem r_false_3_0 (x y : Int) : says true (fin law.res (excode base3 1000000 c3 (f3 x y false 3 0) .empty)) = true := by kernel_rfl
theorem r_false_3_1 (x y : Int) : says true (fin law.res (excode base3 1000000 c3 (f3 x y false 3 1) .empty)) = true := by kernel_rfl
theorem r_false_3_2 (x y : Int) : says true (fin law.res (excode base3 1000000 c3 (f3 x y false 3 2) .empty)) = true := by kernel_rfl
theorem r_false_3_3 (x y : Int) : says true (fin law.res (excode base3 1000000 c3 (f3 x y false 3 3) .empty)) = true := by kernel_rfl
theorem r_false_3_4 (x y : Int) : says true (fin law.res (excode base3 1000000 c3 (f3 x y false 3 4) .empty)) = true := by kernel_rfl
theorem rs_true (x y : Int) : ∀ k j : Nat, k < 4 → j < 5 → says true (fin law.res (excode base3 1000000 c3 (f3 x y true k j) .empty)) = true
  | 0, 0, _, _ => r_true_0_0 x y
  | 0, 1, _, _ => r_true_0_1 x y
  | 0, 2, _, _ => r_true_0_2 x y
  | 0, 3, _, _ => r_true_0_3 x y
  | 0, 4, _, _ => r_true_0_4 x y
  | 1, 0, _, _ => r_true_1_0 x y
  | 1, 1, _, _ => r_true_1_1 x y
  | 1, 2, _, _ => r_true_1_2 x y
  | 1, 3, _, _ => r_true_1_3 x y
  | 1, 4, _, _ => r_true_1_4 x y
  | 2, 0, _, _ => r_true_2_0 x y
  | 2, 1, _, _ => r_true_2_1 x y
  | 2, 2, _, _ => r_true_2_2 x y
  | 2, 3, _, _ => r_true_2_3 x y
  | 2, 4, _, _ => r_true_2_4 x y
  | 3, 0, _, _ => r_true_3_0 x y
  | 3, 1, _, _ => r_true_3_1 x y
  | 3, 2, _, _ => r_true_3_2 x y
  | 3, 3, _, _ => r_true_3_3 x y
  | 3, 4, _, _ => r_true_3_4 x y
  | _ + 4, _, h, _ => absurd h (by omega)
  | _, _ + 5, _, h => absurd h (by omega)
theorem rs_false (x y : Int) : ∀ k j : Nat, k < 4 → j < 5 → says true (fin law.res (excode base3 1000000 c3 (f3 x y false k j) .empty)) = true
  | 0, 0, _, _ => r_false_0_0 x y
  | 0, 1, _, _ => r_false_0_1 x y
  | 0, 2, _, _ => r_false_0_2 x y
  | 0, 3, _, _ => r_false_0_3 x y
  | 0, 4, _, _ => r_false_0_4 x y
  | 1, 0, _, _ => r_false_1_0 x y
  | 1, 1, _, _ => r_false_1_1 x y
  | 1, 2, _, _ => r_false_1_2 x y
  | 1, 3, _, _ => r_false_1_3 x y
  | 1, 4, _, _ => r_false_1_4 x y
  | 2, 0, _, _ => r_false_2_0 x y
  | 2, 1, _, _ => r_false_2_1 x y
  | 2, 2, _, _ => r_false_2_2 x y
  | 2, 3, _, _ => r_false_2_3 x y
  | 2, 4, _, _ => r_false_2_4 x y
  | 3, 0, _, _ => r_false_3_0 x y
  | 3, 1, _, _ => r_false_3_1 x y
  | 3, 2, _, _ => r_false_3_2 x y
  | 3, 3, _, _ => r_false_3_3 x y
  | 3, 4, _, _ => r_false_3_4 x y
  | _ + 4, _, h, _ => absurd h (by omega)
  | _, _ + 5, _, h => absurd h (by omega)
theorem all_at (x y : Nat) (b : Bool) : says true (evF base3 1000000 law [.int .u8 (.ofNat x), .int .u8 (.ofNat y), .bool b] .empty) = true := by
  rw [begun]
  have h : (Int.ofNat x).tmod 4 = ((x % 4 : Nat) : Int) := rfl
  have h' : (Int.ofNat y).tmod 5 = ((y % 5 : Nat) : Int) := rfl
  rw [h, h']
  cases b with
  | true => exact rs_true _ _ (x % 4) (y % 5) (Nat.mod_lt _ (by decide)) (Nat.mod_lt _ (by decide))
  | false => exact rs_false _ _ (x % 4) (y % 5) (Nat.mod_lt _ (by decide)) (Nat.mod_lt _ (by decide))
end Go.Proofs.YtdamhfbdogkkjaaGreatDoor.sortArgs
