/- Rings of unlike neighbours: the abstract machine's answers behind the choice of how many, evaluated. No condition. -/
import Derived.Test.YtggeadnjikpjnaaProg
import Derived.KernelRfl
import Derived.Test.YtggeadnjikpjnaaVmZH
namespace Go.Proofs.Ytggeadnjikpjnaa.satParity
set_option linter.unusedVariables false
set_option maxRecDepth 100000
/-- The program, compiled for the abstract machine. -/
noncomputable def code : Vm.Tab Vm.CF := Vm.prog Try.prog
noncomputable def base : Vm.CallT := Vm.ev code 1000000
theorem known_true : (base (.ofNat 9) [] .empty).on false (fun v _ => Vm.like v (.bool true)) = true := by kernel_rfl
/-- What is evaluated once. -/
noncomputable def said : Vm.Told := [(.ofNat 9, [([], .bool true)])]
noncomputable def table : Vm.CallT := Vm.told said.tab base
noncomputable def law : Vm.CF := (Vm.Id.ofNat 8).get code
theorem law_mk : law = .mk law.nt law.res law.body := by kernel_rfl
noncomputable def c1 : Vm.CC := law.body.snd
noncomputable def c2 : Vm.CC := c1.snd
noncomputable def c3 : Vm.CC := c2.snd
theorem body_seq : law.body = .seq law.body.fst law.body.snd := by kernel_rfl
theorem c1_seq : c1 = .seq c1.fst c1.snd := by kernel_rfl
theorem c2_seq : c2 = .seq c2.fst c2.snd := by kernel_rfl
noncomputable def at_ (k : Nat) (v : Vm.AV) (f : Vm.Fr Vm.AV) : Vm.Fr Vm.AV := (Vm.Sl.ofNat k).set v f
noncomputable def f1 (x : Int) : Vm.Fr Vm.AV := at_ 2 (.bool false) (Vm.frame0 [.int .u8 x])
noncomputable def f2 (x : Int) : Vm.Fr Vm.AV := at_ 12 (.bool false) (at_ 11 (.bool true) (f1 x))
noncomputable def f3 (x m k : Int) : Vm.Fr Vm.AV := at_ 3 (.int .i64 k) (at_ 16 (.int .i64 k) (at_ 15 (.int .i64 (Vm.wr .i64 m)) (at_ 14 (.int .u8 m) (at_ 13 (.int .u8 x) (f2 x)))))
theorem s0 (x : Int) : Vm.excode table 1000000 law.body.fst (Vm.frame0 [.int .u8 x]) .empty = .nor (f1 x) .empty := by kernel_rfl
theorem s1 (x : Int) : Vm.excode table 1000000 c1.fst (f1 x) .empty = .nor (f2 x) .empty := by kernel_rfl
theorem s2 (x : Int) : Vm.excode table 1000000 c2.fst (f2 x) .empty = .nor (f3 x (x.tmod 14) (Vm.wr .i64 (Vm.iadd (Vm.wr .i64 (x.tmod 14)) 2))) .empty := by kernel_rfl
theorem begun (x : Int) : Vm.evF table 1000000 law [.int .u8 x] .empty = Vm.fin law.res (Vm.excode table 1000000 c3 (f3 x (x.tmod 14) (Vm.wr .i64 (Vm.iadd (Vm.wr .i64 (x.tmod 14)) 2))) .empty) := by
  rw [Vm.evF_mk law_mk (by kernel_rfl), Vm.seq_nor body_seq (s0 x)]
  show Vm.fin _ (Vm.excode table 1000000 c1 (f1 x) .empty) = _
  rw [Vm.seq_nor c1_seq (s1 x)]
  show Vm.fin _ (Vm.excode table 1000000 c2 (f2 x) .empty) = _
  rw [Vm.seq_nor c2_seq (s2 x)]
  rfl
theorem round0 (x : Int) : Vm.says true (Vm.fin law.res (Vm.excode table 1000000 c3 (f3 x 0 2) .empty)) = true := by kernel_rfl
theorem round1 (x : Int) : Vm.says true (Vm.fin law.res (Vm.excode table 1000000 c3 (f3 x 1 3) .empty)) = true := by kernel_rfl
theorem round2 (x : Int) : Vm.says true (Vm.fin law.res (Vm.excode table 1000000 c3 (f3 x 2 4) .empty)) = true := by kernel_rfl
theorem round3 (x : Int) : Vm.says true (Vm.fin law.res (Vm.excode table 1000000 c3 (f3 x 3 5) .empty)) = true := by kernel_rfl
theorem round4 (x : Int) : Vm.says true (Vm.fin law.res (Vm.excode table 1000000 c3 (f3 x 4 6) .empty)) = true := by kernel_rfl
theorem round5 (x : Int) : Vm.says true (Vm.fin law.res (Vm.excode table 1000000 c3 (f3 x 5 7) .empty)) = true := by kernel_rfl
theorem round6 (x : Int) : Vm.says true (Vm.fin law.res (Vm.excode table 1000000 c3 (f3 x 6 8) .empty)) = true := by kernel_rfl
theorem round7 (x : Int) : Vm.says true (Vm.fin law.res (Vm.excode table 1000000 c3 (f3 x 7 9) .empty)) = true := by kernel_rfl
theorem round8 (x : Int) : Vm.says true (Vm.fin law.res (Vm.excode table 1000000 c3 (f3 x 8 10) .empty)) = true := by kernel_rfl
theorem round9 (x : Int) : Vm.says true (Vm.fin law.res (Vm.excode table 1000000 c3 (f3 x 9 11) .empty)) = true := by kernel_rfl
theorem round10 (x : Int) : Vm.says true (Vm.fin law.res (Vm.excode table 1000000 c3 (f3 x 10 12) .empty)) = true := by kernel_rfl
theorem round11 (x : Int) : Vm.says true (Vm.fin law.res (Vm.excode table 1000000 c3 (f3 x 11 13) .empty)) = true := by kernel_rfl
theorem round12 (x : Int) : Vm.says true (Vm.fin law.res (Vm.excode table 1000000 c3 (f3 x 12 14) .empty)) = true := by kernel_rfl
theorem round13 (x : Int) : Vm.says true (Vm.fin law.res (Vm.excode table 1000000 c3 (f3 x 13 15) .empty)) = true := by kernel_rfl
theorem rounds (x : Int) : ∀ r : Nat, r < 14 → Vm.says true (Vm.fin law.res (Vm.excode table 1000000 c3 (f3 x r (Vm.wr .i64 (Vm.iadd (Vm.wr .i64 r) 2))) .empty)) = true
  | 0, _ => round0 x
  | 1, _ => round1 x
  | 2, _ => round2 x
  | 3, _ => round3 x
  | 4, _ => round4 x
  | 5, _ => round5 x
  | 6, _ => round6 x
  | 7, _ => round7 x
  | 8, _ => round8 x
  | 9, _ => round9 x
  | 10, _ => round10 x
  | 11, _ => round11 x
  | 12, _ => round12 x
  | 13, _ => round13 x
  | _ + 14, h => absurd h (by omega)
theorem all_at (x : Nat) : Vm.says true (Vm.evF table 1000000 law [.int .u8 (.ofNat x)] .empty) = true := by
  rw [begun]
  have h : (Int.ofNat x).tmod 14 = ((x % 14 : Nat) : Int) := rfl
  rw [h]
  exact rounds _ (x % 14) (Nat.mod_lt _ (by decide))
end Go.Proofs.Ytggeadnjikpjnaa.satParity
