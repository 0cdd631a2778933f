/- Functions of the program: more. No condition. -/
import Derived.Test.YtdamhfbdogkkjaaGreatDoorLibD
namespace Go.Proofs.YtdamhfbdogkkjaaGreatDoor.sortWords
open Go Go.Vm
set_option linter.unusedVariables false
set_option maxRecDepth 100000
noncomputable def law : CF := (Vm.Id.ofNat 3).get code
theorem law_mk : law = .mk law.nt law.res law.body := by kernel_rfl
noncomputable def c1 : CC := law.body.snd
noncomputable def c2 : CC := c1.snd
noncomputable def c3 : CC := c2.snd
noncomputable def c4 : CC := c3.snd
theorem body_seq : law.body = .seq law.body.fst law.body.snd := by kernel_rfl
theorem c1_seq : c1 = .seq c1.fst c1.snd := by kernel_rfl
theorem c2_seq : c2 = .seq c2.fst c2.snd := by kernel_rfl
theorem c3_seq : c3 = .seq c3.fst c3.snd := by kernel_rfl
noncomputable def at_ (k : Nat) (v : AV) (f : Fr AV) : Fr AV := (Sl.ofNat k).set v f
noncomputable def f1 (x : Int) : Fr AV := at_ 2 (.bool false) (frame0 [.int .u8 x])
noncomputable def f2 (x : Int) : Fr AV := at_ 13 (.bool false) (at_ 12 (.bool true) (f1 x))
noncomputable def rc3 (x : Int) : RC := excode base3 1000000 c2.fst (f2 x) .empty
noncomputable def f3 (x : Int) : Fr AV := (rc3 x).on (f2 x) (fun f _ => f) (fun _ f _ => f) fun f _ => f
noncomputable def st (x : Int) : St := (rc3 x).on .empty (fun _ s => s) (fun _ _ s => s) fun _ s => s
noncomputable def f4 (x k : Int) : Fr AV := at_ 4 (.int .i64 (wr .i64 k)) (at_ 17 (.int .i64 (wr .i64 k)) (at_ 16 (.int .u8 k) (at_ 15 (.int .u8 x) (f3 x))))
theorem s0 (x : Int) : excode base3 1000000 law.body.fst (frame0 [.int .u8 x]) .empty = .nor (f1 x) .empty := by kernel_rfl
theorem s1 (x : Int) : excode base3 1000000 c1.fst (f1 x) .empty = .nor (f2 x) .empty := by kernel_rfl
theorem s2 (x : Int) : excode base3 1000000 c2.fst (f2 x) .empty = .nor (f3 x) (st x) := by kernel_rfl
theorem s3 (x : Int) : excode base3 1000000 c3.fst (f3 x) (st x) = .nor (f4 x (x.tmod 18)) (st x) := by kernel_rfl
theorem begun (x : Int) : evF base3 1000000 law [.int .u8 x] .empty = fin law.res (excode base3 1000000 c4 (f4 x (x.tmod 18)) (st x)) := by
  rw [evF_mk law_mk (by kernel_rfl), seq_nor body_seq (s0 x)]
  show fin _ (excode base3 1000000 c1 (f1 x) .empty) = _
  rw [seq_nor c1_seq (s1 x)]
  show fin _ (excode base3 1000000 c2 (f2 x) .empty) = _
  rw [seq_nor c2_seq (s2 x)]
  show fin _ (excode base3 1000000 c3 (f3 x) (st x)) = _
  rw [seq_nor c3_seq (s3 x)]
  rfl
theorem r_0 (x : Int) : says true (fin law.res (excode base3 1000000 c4 (f4 x 0) (st x))) = true := by kernel_rfl
theorem r_1 (x : Int) : says true (fin law.res (excode base3 1000000 c4 (f4 x 1) (st x))) = true := by kernel_rfl
theorem r_2 (x : Int) : says true (fin law.res (excode base3 1000000 c4 (f4 x 2) (st x))) = true := by kernel_rfl
theorem r_3 (x : Int) : says true (fin law.res (excode base3 1000000 c4 (f4 x 3) (st x))) = true := by kernel_rfl
theorem r_4 (x : Int) : says true (fin law.res (excode base3 1000000 c4 (f4 x 4) (st x))) = true := by kernel_rfl
theorem r_5 (x : Int) : says true (fin law.res (excode base3 1000000 c4 (f4 x 5) (st x))) = true := by kernel_rfl
theorem r_6 (x : Int) : says true (fin law.res (excode base3 1000000 c4 (f4 x 6) (st x))) = true := by kernel_rfl
theorem r_7 (x : Int) : says true (fin law.res (excode base3 1000000 c4 (f4 x 7) (st x))) = true := by kernel_rfl
theorem r_8 (x : Int) : says true (fin law.res (excode base3 1000000 c4 (f4 x 8) (st x))) = true := by kernel_rfl
theorem r_9 (x : Int) : says true (fin law.res (excode base3 1000000 c4 (f4 x 9) (st x))) = true := by kernel_rfl
theorem r_10 (x : Int) : says true (fin law.res (excode base3 1000000 c4 (f4 x 10) (st x))) = true := by kernel_rfl
theorem r_11 (x : Int) : says true (fin law.res (excode base3 1000000 c4 (f4 x 11) (st x))) = true := by kernel_rfl
theorem r_12 (x : Int) : says true (fin law.res (excode base3 1000000 c4 (f4 x 12) (st x))) = true := by kernel_rfl
theorem r_13 (x : Int) : says true (fin law.res (excode base3 1000000 c4 (f4 x 13) (st x))) = true := by kernel_rfl
theorem r_14 (x : Int) : says true (fin law.res (excode base3 1000000 c4 (f4 x 14) (st x))) = true := by kernel_rfl
theorem r_15 (x : Int) : says true (fin law.res (excode base3 1000000 c4 (f4 x 15) (st x))) = true := by kernel_rfl
theorem r_16 (x : Int) : says true (fin law.res (excode base3 1000000 c4 (f4 x 16) (st x))) = true := by kernel_rfl
theorem r_17 (x : Int) : says true (fin law.res (excode base3 1000000 c4 (f4 x 17) (st x))) = true := by kernel_rfl
theorem rs (x : Int) : ∀ k : Nat, k < 18 → says true (fin law.res (excode base3 1000000 c4 (f4 x k) (st x))) = true
  | 0, _ => r_0 x
  | 1, _ => r_1 x
  | 2, _ => r_2 x
  | 3, _ => r_3 x
  | 4, _ => r_4 x
  | 5, _ => r_5 x
  | 6, _ => r_6 x
  | 7, _ => r_7 x
  | 8, _ => r_8 x
  | 9, _ => r_9 x
  | 10, _ => r_10 x
  | 11, _ => r_11 x
  | 12, _ => r_12 x
  | 13, _ => r_13 x
  | 14, _ => r_14 x
  | 15, _ => r_15 x
  | 16, _ => r_16 x
  | 17, _ => r_17 x
  | _ + 18, h => absurd h (by omega)
theorem all_at (x : Nat) : says true (evF base3 1000000 law [.int .u8 (.ofNat x)] .empty) = true := by
  rw [begun]
  have h : (Int.ofNat x).tmod 18 = ((x % 18 : Nat) : Int) := rfl
  rw [h]
  exact rs _ (x % 18) (Nat.mod_lt _ (by decide))
end Go.Proofs.YtdamhfbdogkkjaaGreatDoor.sortWords
