/- Chains of clauses: the law over what is told, evaluated. No condition. -/
import Derived.Test.YtggeadnjikpjnaaChainsA
import Derived.Test.YtggeadnjikpjnaaChainsB
import Derived.Test.YtggeadnjikpjnaaChainsC
import Derived.Test.YtggeadnjikpjnaaChainsD
import Derived.Test.YtggeadnjikpjnaaChainsE
import Derived.Test.YtggeadnjikpjnaaChainsF
import Derived.Test.YtggeadnjikpjnaaChainsG
import Derived.Test.YtggeadnjikpjnaaChainsH
import Derived.Test.YtggeadnjikpjnaaChainsI
import Derived.Test.YtggeadnjikpjnaaChainsJ
namespace Go.Proofs.Ytggeadnjikpjnaa.satChains
set_option linter.unusedVariables false
set_option maxRecDepth 100000
open Vm (AV)
theorem sound (k : Nat) (h1 : 2 ≤ k) (h2 : k ≤ 31) : Vm.SoundCall Try.prog (call k) := by
  match k, h1, h2 with
  | 2, _, _ => exact call_sound 2 once2 (fun j h1 h2 => if h : j < 2 then ups_at some2_1 j (by omega) (by omega) else absurd h2 (by omega)) (fun j h1 h2 => if h : j < 2 then ups_at not2_1 j (by omega) (by omega) else absurd h2 (by omega))
  | 3, _, _ => exact call_sound 3 once3 (fun j h1 h2 => if h : j < 3 then ups_at some3_1 j (by omega) (by omega) else absurd h2 (by omega)) (fun j h1 h2 => if h : j < 3 then ups_at not3_1 j (by omega) (by omega) else absurd h2 (by omega))
  | 4, _, _ => exact call_sound 4 once4 (fun j h1 h2 => if h : j < 4 then ups_at some4_1 j (by omega) (by omega) else absurd h2 (by omega)) (fun j h1 h2 => if h : j < 4 then ups_at not4_1 j (by omega) (by omega) else absurd h2 (by omega))
  | 5, _, _ => exact call_sound 5 once5 (fun j h1 h2 => if h : j < 5 then ups_at some5_1 j (by omega) (by omega) else absurd h2 (by omega)) (fun j h1 h2 => if h : j < 5 then ups_at not5_1 j (by omega) (by omega) else absurd h2 (by omega))
  | 6, _, _ => exact call_sound 6 once6 (fun j h1 h2 => if h : j < 6 then ups_at some6_1 j (by omega) (by omega) else absurd h2 (by omega)) (fun j h1 h2 => if h : j < 6 then ups_at not6_1 j (by omega) (by omega) else absurd h2 (by omega))
  | 7, _, _ => exact call_sound 7 once7 (fun j h1 h2 => if h : j < 7 then ups_at some7_1 j (by omega) (by omega) else absurd h2 (by omega)) (fun j h1 h2 => if h : j < 7 then ups_at not7_1 j (by omega) (by omega) else absurd h2 (by omega))
  | 8, _, _ => exact call_sound 8 once8 (fun j h1 h2 => if h : j < 8 then ups_at some8_1 j (by omega) (by omega) else absurd h2 (by omega)) (fun j h1 h2 => if h : j < 8 then ups_at not8_1 j (by omega) (by omega) else absurd h2 (by omega))
  | 9, _, _ => exact call_sound 9 once9 (fun j h1 h2 => if h : j < 9 then ups_at some9_1 j (by omega) (by omega) else absurd h2 (by omega)) (fun j h1 h2 => if h : j < 9 then ups_at not9_1 j (by omega) (by omega) else absurd h2 (by omega))
  | 10, _, _ => exact call_sound 10 once10 (fun j h1 h2 => if h : j < 10 then ups_at some10_1 j (by omega) (by omega) else absurd h2 (by omega)) (fun j h1 h2 => if h : j < 10 then ups_at not10_1 j (by omega) (by omega) else absurd h2 (by omega))
  | 11, _, _ => exact call_sound 11 once11 (fun j h1 h2 => if h : j < 11 then ups_at some11_1 j (by omega) (by omega) else absurd h2 (by omega)) (fun j h1 h2 => if h : j < 11 then ups_at not11_1 j (by omega) (by omega) else absurd h2 (by omega))
  | 12, _, _ => exact call_sound 12 once12 (fun j h1 h2 => if h : j < 12 then ups_at some12_1 j (by omega) (by omega) else absurd h2 (by omega)) (fun j h1 h2 => if h : j < 12 then ups_at not12_1 j (by omega) (by omega) else absurd h2 (by omega))
  | 13, _, _ => exact call_sound 13 once13 (fun j h1 h2 => if h : j < 13 then ups_at some13_1 j (by omega) (by omega) else absurd h2 (by omega)) (fun j h1 h2 => if h : j < 13 then ups_at not13_1 j (by omega) (by omega) else absurd h2 (by omega))
  | 14, _, _ => exact call_sound 14 once14 (fun j h1 h2 => if h : j < 14 then ups_at some14_1 j (by omega) (by omega) else absurd h2 (by omega)) (fun j h1 h2 => if h : j < 14 then ups_at not14_1 j (by omega) (by omega) else absurd h2 (by omega))
  | 15, _, _ => exact call_sound 15 once15 (fun j h1 h2 => if h : j < 15 then ups_at some15_1 j (by omega) (by omega) else absurd h2 (by omega)) (fun j h1 h2 => if h : j < 15 then ups_at not15_1 j (by omega) (by omega) else absurd h2 (by omega))
  | 16, _, _ => exact call_sound 16 once16 (fun j h1 h2 => if h : j < 16 then ups_at some16_1 j (by omega) (by omega) else absurd h2 (by omega)) (fun j h1 h2 => if h : j < 16 then ups_at not16_1 j (by omega) (by omega) else absurd h2 (by omega))
  | 17, _, _ => exact call_sound 17 once17 (fun j h1 h2 => if h : j < 17 then ups_at some17_1 j (by omega) (by omega) else absurd h2 (by omega)) (fun j h1 h2 => if h : j < 15 then ups_at not17_1 j (by omega) (by omega) else if h : j < 17 then ups_at not17_15 j (by omega) (by omega) else absurd h2 (by omega))
  | 18, _, _ => exact call_sound 18 once18 (fun j h1 h2 => if h : j < 18 then ups_at some18_1 j (by omega) (by omega) else absurd h2 (by omega)) (fun j h1 h2 => if h : j < 14 then ups_at not18_1 j (by omega) (by omega) else if h : j < 18 then ups_at not18_14 j (by omega) (by omega) else absurd h2 (by omega))
  | 19, _, _ => exact call_sound 19 once19 (fun j h1 h2 => if h : j < 18 then ups_at some19_1 j (by omega) (by omega) else if h : j < 19 then ups_at some19_18 j (by omega) (by omega) else absurd h2 (by omega)) (fun j h1 h2 => if h : j < 14 then ups_at not19_1 j (by omega) (by omega) else if h : j < 19 then ups_at not19_14 j (by omega) (by omega) else absurd h2 (by omega))
  | 20, _, _ => exact call_sound 20 once20 (fun j h1 h2 => if h : j < 18 then ups_at some20_1 j (by omega) (by omega) else if h : j < 20 then ups_at some20_18 j (by omega) (by omega) else absurd h2 (by omega)) (fun j h1 h2 => if h : j < 13 then ups_at not20_1 j (by omega) (by omega) else if h : j < 20 then ups_at not20_13 j (by omega) (by omega) else absurd h2 (by omega))
  | 21, _, _ => exact call_sound 21 once21 (fun j h1 h2 => if h : j < 18 then ups_at some21_1 j (by omega) (by omega) else if h : j < 21 then ups_at some21_18 j (by omega) (by omega) else absurd h2 (by omega)) (fun j h1 h2 => if h : j < 12 then ups_at not21_1 j (by omega) (by omega) else if h : j < 21 then ups_at not21_12 j (by omega) (by omega) else absurd h2 (by omega))
  | 22, _, _ => exact call_sound 22 once22 (fun j h1 h2 => if h : j < 17 then ups_at some22_1 j (by omega) (by omega) else if h : j < 22 then ups_at some22_17 j (by omega) (by omega) else absurd h2 (by omega)) (fun j h1 h2 => if h : j < 12 then ups_at not22_1 j (by omega) (by omega) else if h : j < 22 then ups_at not22_12 j (by omega) (by omega) else absurd h2 (by omega))
  | 23, _, _ => exact call_sound 23 once23 (fun j h1 h2 => if h : j < 17 then ups_at some23_1 j (by omega) (by omega) else if h : j < 23 then ups_at some23_17 j (by omega) (by omega) else absurd h2 (by omega)) (fun j h1 h2 => if h : j < 11 then ups_at not23_1 j (by omega) (by omega) else if h : j < 21 then ups_at not23_11 j (by omega) (by omega) else if h : j < 23 then ups_at not23_21 j (by omega) (by omega) else absurd h2 (by omega))
  | 24, _, _ => exact call_sound 24 once24 (fun j h1 h2 => if h : j < 16 then ups_at some24_1 j (by omega) (by omega) else if h : j < 24 then ups_at some24_16 j (by omega) (by omega) else absurd h2 (by omega)) (fun j h1 h2 => if h : j < 11 then ups_at not24_1 j (by omega) (by omega) else if h : j < 21 then ups_at not24_11 j (by omega) (by omega) else if h : j < 24 then ups_at not24_21 j (by omega) (by omega) else absurd h2 (by omega))
  | 25, _, _ => exact call_sound 25 once25 (fun j h1 h2 => if h : j < 16 then ups_at some25_1 j (by omega) (by omega) else if h : j < 25 then ups_at some25_16 j (by omega) (by omega) else absurd h2 (by omega)) (fun j h1 h2 => if h : j < 10 then ups_at not25_1 j (by omega) (by omega) else if h : j < 19 then ups_at not25_10 j (by omega) (by omega) else if h : j < 25 then ups_at not25_19 j (by omega) (by omega) else absurd h2 (by omega))
  | 26, _, _ => exact call_sound 26 once26 (fun j h1 h2 => if h : j < 16 then ups_at some26_1 j (by omega) (by omega) else if h : j < 26 then ups_at some26_16 j (by omega) (by omega) else absurd h2 (by omega)) (fun j h1 h2 => if h : j < 10 then ups_at not26_1 j (by omega) (by omega) else if h : j < 19 then ups_at not26_10 j (by omega) (by omega) else if h : j < 26 then ups_at not26_19 j (by omega) (by omega) else absurd h2 (by omega))
  | 27, _, _ => exact call_sound 27 once27 (fun j h1 h2 => if h : j < 15 then ups_at some27_1 j (by omega) (by omega) else if h : j < 25 then ups_at some27_15 j (by omega) (by omega) else if h : j < 27 then ups_at some27_25 j (by omega) (by omega) else absurd h2 (by omega)) (fun j h1 h2 => if h : j < 10 then ups_at not27_1 j (by omega) (by omega) else if h : j < 19 then ups_at not27_10 j (by omega) (by omega) else if h : j < 27 then ups_at not27_19 j (by omega) (by omega) else absurd h2 (by omega))
  | 28, _, _ => exact call_sound 28 once28 (fun j h1 h2 => if h : j < 15 then ups_at some28_1 j (by omega) (by omega) else if h : j < 25 then ups_at some28_15 j (by omega) (by omega) else if h : j < 28 then ups_at some28_25 j (by omega) (by omega) else absurd h2 (by omega)) (fun j h1 h2 => if h : j < 9 then ups_at not28_1 j (by omega) (by omega) else if h : j < 17 then ups_at not28_9 j (by omega) (by omega) else if h : j < 25 then ups_at not28_17 j (by omega) (by omega) else if h : j < 28 then ups_at not28_25 j (by omega) (by omega) else absurd h2 (by omega))
  | 29, _, _ => exact call_sound 29 once29 (fun j h1 h2 => if h : j < 15 then ups_at some29_1 j (by omega) (by omega) else if h : j < 25 then ups_at some29_15 j (by omega) (by omega) else if h : j < 29 then ups_at some29_25 j (by omega) (by omega) else absurd h2 (by omega)) (fun j h1 h2 => if h : j < 9 then ups_at not29_1 j (by omega) (by omega) else if h : j < 17 then ups_at not29_9 j (by omega) (by omega) else if h : j < 25 then ups_at not29_17 j (by omega) (by omega) else if h : j < 29 then ups_at not29_25 j (by omega) (by omega) else absurd h2 (by omega))
  | 30, _, _ => exact call_sound 30 once30 (fun j h1 h2 => if h : j < 14 then ups_at some30_1 j (by omega) (by omega) else if h : j < 24 then ups_at some30_14 j (by omega) (by omega) else if h : j < 30 then ups_at some30_24 j (by omega) (by omega) else absurd h2 (by omega)) (fun j h1 h2 => if h : j < 9 then ups_at not30_1 j (by omega) (by omega) else if h : j < 17 then ups_at not30_9 j (by omega) (by omega) else if h : j < 25 then ups_at not30_17 j (by omega) (by omega) else if h : j < 30 then ups_at not30_25 j (by omega) (by omega) else absurd h2 (by omega))
  | 31, _, _ => exact call_sound 31 once31 (fun j h1 h2 => if h : j < 14 then ups_at some31_1 j (by omega) (by omega) else if h : j < 23 then ups_at some31_14 j (by omega) (by omega) else if h : j < 31 then ups_at some31_23 j (by omega) (by omega) else absurd h2 (by omega)) (fun j h1 h2 => if h : j < 8 then ups_at not31_1 j (by omega) (by omega) else if h : j < 15 then ups_at not31_8 j (by omega) (by omega) else if h : j < 22 then ups_at not31_15 j (by omega) (by omega) else if h : j < 29 then ups_at not31_22 j (by omega) (by omega) else if h : j < 31 then ups_at not31_29 j (by omega) (by omega) else absurd h2 (by omega))
  | 0, h1, _ => omega
  | 1, h1, _ => omega
  | k + 32, _, h2 => omega
noncomputable def law : Vm.CF := (Vm.Id.ofNat 7).get code
theorem law_mk : law = .mk law.nt law.res law.body := by kernel_rfl
noncomputable def c1 : Vm.CC := law.body.snd
noncomputable def c2 : Vm.CC := c1.snd
noncomputable def c3 : Vm.CC := c2.snd
noncomputable def c4 : Vm.CC := c3.snd
noncomputable def c5 : Vm.CC := c4.snd
noncomputable def c6 : Vm.CC := c5.snd
noncomputable def c7 : Vm.CC := c6.snd
noncomputable def c8 : Vm.CC := c7.snd
noncomputable def c9 : Vm.CC := c8.snd
theorem c0_seq : law.body = .seq law.body.fst law.body.snd := by kernel_rfl
theorem c1_seq : c1 = .seq c1.fst c1.snd := by kernel_rfl
theorem c2_seq : c2 = .seq c2.fst c2.snd := by kernel_rfl
theorem c3_seq : c3 = .seq c3.fst c3.snd := by kernel_rfl
theorem c4_seq : c4 = .seq c4.fst c4.snd := by kernel_rfl
theorem c5_seq : c5 = .seq c5.fst c5.snd := by kernel_rfl
theorem c6_seq : c6 = .seq c6.fst c6.snd := by kernel_rfl
theorem c7_seq : c7 = .seq c7.fst c7.snd := by kernel_rfl
theorem c8_seq : c8 = .seq c8.fst c8.snd := by kernel_rfl
noncomputable def at_ (k : Nat) (v : AV) (f : Vm.Fr AV) : Vm.Fr AV := (Vm.Sl.ofNat k).set v f
noncomputable def f1 (x y : Int) : Vm.Fr AV := at_ 4 (.bool false) (Vm.frame0 [.int .u8 x, .int .u8 y])
noncomputable def f2 (x y : Int) : Vm.Fr AV := at_ 20 (.bool false) (at_ 19 (.bool true) (f1 x y))
noncomputable def f3 (x y m k : Int) : Vm.Fr AV := at_ 5 (.int .i64 k) (at_ 24 (.int .i64 k) (at_ 23 (.int .i64 (Vm.wr .i64 m)) (at_ 22 (.int .u8 m) (at_ 21 (.int .u8 x) (f2 x y)))))
noncomputable def M : Nat := 1000000
section
variable (T : Vm.CallT)
noncomputable def mid (x y : Int) (m : Nat) : Vm.RC :=
  Vm.qseqK (Vm.qexcode c7.fst T M) (Vm.qseqK (Vm.qexcode c6.fst T M) (Vm.qseqK (Vm.qexcode c5.fst T M) (Vm.qseqK (Vm.qexcode c4.fst T M) (Vm.qexcode c3.fst T M (f3 x y (.ofNat m) (.ofNat (m + 2))) .empty))))
noncomputable def fm (x y : Int) (m : Nat) : Vm.Fr AV := (mid T x y m).fr
noncomputable def sm (x y : Int) (m : Nat) : Vm.St := (mid T x y m).st
noncomputable def fe (x y : Int) (m : Nat) (z q j : Int) : Vm.Fr AV :=
  at_ 14 (.int .i64 j) (at_ 69 (.int .i64 j) (at_ 68 (.int .i64 q) (at_ 67 (.int .i64 (.ofNat (m + 1))) (at_ 66 (.int .i64 (.ofNat (m + 2))) (at_ 65 (.int .i64 z) (at_ 64 (.int .u8 y) (fm T x y m)))))))
noncomputable def rest (x y : Int) (m : Nat) (z : Int) (q : Nat) : Bool := Vm.says true (Vm.fin law.res (Vm.qexcode c9 T M (fe T x y m z (.ofNat q) (.ofNat (q + 1))) (sm T x y m)))
end
theorem s0 (T : Vm.CallT) (x y : Int) : Vm.qexcode law.body.fst T M (Vm.frame0 [.int .u8 x, .int .u8 y]) .empty = .nor (f1 x y) .empty := by kernel_rfl
theorem s1 (k : Nat) (x y : Int) : Vm.qexcode c1.fst (call k) M (f1 x y) .empty = .nor (f2 x y) .empty := by kernel_rfl
theorem s2 (T : Vm.CallT) (x y : Int) : Vm.qexcode c2.fst T M (f2 x y) .empty = .nor (f3 x y (x.tmod 30) (Vm.wr .i64 (Vm.iadd (Vm.wr .i64 (x.tmod 30)) 2))) .empty := by kernel_rfl
theorem nor0 (x y : Int) : (mid (call 2) x y 0).isNor = true := by kernel_rfl
theorem next0 (x y : Int) : Vm.qexcode c8.fst (call 2) M (fm (call 2) x y 0) (sm (call 2) x y 0) = .nor (fe (call 2) x y 0 (Vm.wr .i64 y) (Int.tmod (Vm.wr .i64 y) (.ofNat 1)) (Vm.wr .i64 (Vm.iadd (Int.tmod (Vm.wr .i64 y) (.ofNat 1)) 1))) (sm (call 2) x y 0) := by kernel_rfl
theorem rest0 (x y z : Int) : ups 1 0 (rest (call 2) x y 0 z) = true := by kernel_rfl
theorem nor1 (x y : Int) : (mid (call 3) x y 1).isNor = true := by kernel_rfl
theorem next1 (x y : Int) : Vm.qexcode c8.fst (call 3) M (fm (call 3) x y 1) (sm (call 3) x y 1) = .nor (fe (call 3) x y 1 (Vm.wr .i64 y) (Int.tmod (Vm.wr .i64 y) (.ofNat 2)) (Vm.wr .i64 (Vm.iadd (Int.tmod (Vm.wr .i64 y) (.ofNat 2)) 1))) (sm (call 3) x y 1) := by kernel_rfl
theorem rest1 (x y z : Int) : ups 2 0 (rest (call 3) x y 1 z) = true := by kernel_rfl
theorem nor2 (x y : Int) : (mid (call 4) x y 2).isNor = true := by kernel_rfl
theorem next2 (x y : Int) : Vm.qexcode c8.fst (call 4) M (fm (call 4) x y 2) (sm (call 4) x y 2) = .nor (fe (call 4) x y 2 (Vm.wr .i64 y) (Int.tmod (Vm.wr .i64 y) (.ofNat 3)) (Vm.wr .i64 (Vm.iadd (Int.tmod (Vm.wr .i64 y) (.ofNat 3)) 1))) (sm (call 4) x y 2) := by kernel_rfl
theorem rest2 (x y z : Int) : ups 3 0 (rest (call 4) x y 2 z) = true := by kernel_rfl
theorem nor3 (x y : Int) : (mid (call 5) x y 3).isNor = true := by kernel_rfl
theorem next3 (x y : Int) : Vm.qexcode c8.fst (call 5) M (fm (call 5) x y 3) (sm (call 5) x y 3) = .nor (fe (call 5) x y 3 (Vm.wr .i64 y) (Int.tmod (Vm.wr .i64 y) (.ofNat 4)) (Vm.wr .i64 (Vm.iadd (Int.tmod (Vm.wr .i64 y) (.ofNat 4)) 1))) (sm (call 5) x y 3) := by kernel_rfl
theorem rest3 (x y z : Int) : ups 4 0 (rest (call 5) x y 3 z) = true := by kernel_rfl
theorem nor4 (x y : Int) : (mid (call 6) x y 4).isNor = true := by kernel_rfl
theorem next4 (x y : Int) : Vm.qexcode c8.fst (call 6) M (fm (call 6) x y 4) (sm (call 6) x y 4) = .nor (fe (call 6) x y 4 (Vm.wr .i64 y) (Int.tmod (Vm.wr .i64 y) (.ofNat 5)) (Vm.wr .i64 (Vm.iadd (Int.tmod (Vm.wr .i64 y) (.ofNat 5)) 1))) (sm (call 6) x y 4) := by kernel_rfl
theorem rest4 (x y z : Int) : ups 5 0 (rest (call 6) x y 4 z) = true := by kernel_rfl
theorem nor5 (x y : Int) : (mid (call 7) x y 5).isNor = true := by kernel_rfl
theorem next5 (x y : Int) : Vm.qexcode c8.fst (call 7) M (fm (call 7) x y 5) (sm (call 7) x y 5) = .nor (fe (call 7) x y 5 (Vm.wr .i64 y) (Int.tmod (Vm.wr .i64 y) (.ofNat 6)) (Vm.wr .i64 (Vm.iadd (Int.tmod (Vm.wr .i64 y) (.ofNat 6)) 1))) (sm (call 7) x y 5) := by kernel_rfl
theorem rest5 (x y z : Int) : ups 6 0 (rest (call 7) x y 5 z) = true := by kernel_rfl
theorem nor6 (x y : Int) : (mid (call 8) x y 6).isNor = true := by kernel_rfl
theorem next6 (x y : Int) : Vm.qexcode c8.fst (call 8) M (fm (call 8) x y 6) (sm (call 8) x y 6) = .nor (fe (call 8) x y 6 (Vm.wr .i64 y) (Int.tmod (Vm.wr .i64 y) (.ofNat 7)) (Vm.wr .i64 (Vm.iadd (Int.tmod (Vm.wr .i64 y) (.ofNat 7)) 1))) (sm (call 8) x y 6) := by kernel_rfl
theorem rest6 (x y z : Int) : ups 7 0 (rest (call 8) x y 6 z) = true := by kernel_rfl
theorem nor7 (x y : Int) : (mid (call 9) x y 7).isNor = true := by kernel_rfl
theorem next7 (x y : Int) : Vm.qexcode c8.fst (call 9) M (fm (call 9) x y 7) (sm (call 9) x y 7) = .nor (fe (call 9) x y 7 (Vm.wr .i64 y) (Int.tmod (Vm.wr .i64 y) (.ofNat 8)) (Vm.wr .i64 (Vm.iadd (Int.tmod (Vm.wr .i64 y) (.ofNat 8)) 1))) (sm (call 9) x y 7) := by kernel_rfl
theorem rest7 (x y z : Int) : ups 8 0 (rest (call 9) x y 7 z) = true := by kernel_rfl
theorem nor8 (x y : Int) : (mid (call 10) x y 8).isNor = true := by kernel_rfl
theorem next8 (x y : Int) : Vm.qexcode c8.fst (call 10) M (fm (call 10) x y 8) (sm (call 10) x y 8) = .nor (fe (call 10) x y 8 (Vm.wr .i64 y) (Int.tmod (Vm.wr .i64 y) (.ofNat 9)) (Vm.wr .i64 (Vm.iadd (Int.tmod (Vm.wr .i64 y) (.ofNat 9)) 1))) (sm (call 10) x y 8) := by kernel_rfl
theorem rest8 (x y z : Int) : ups 9 0 (rest (call 10) x y 8 z) = true := by kernel_rfl
theorem nor9 (x y : Int) : (mid (call 11) x y 9).isNor = true := by kernel_rfl
theorem next9 (x y : Int) : Vm.qexcode c8.fst (call 11) M (fm (call 11) x y 9) (sm (call 11) x y 9) = .nor (fe (call 11) x y 9 (Vm.wr .i64 y) (Int.tmod (Vm.wr .i64 y) (.ofNat 10)) (Vm.wr .i64 (Vm.iadd (Int.tmod (Vm.wr .i64 y) (.ofNat 10)) 1))) (sm (call 11) x y 9) := by kernel_rfl
theorem rest9 (x y z : Int) : ups 10 0 (rest (call 11) x y 9 z) = true := by kernel_rfl
theorem nor10 (x y : Int) : (mid (call 12) x y 10).isNor = true := by kernel_rfl
theorem next10 (x y : Int) : Vm.qexcode c8.fst (call 12) M (fm (call 12) x y 10) (sm (call 12) x y 10) = .nor (fe (call 12) x y 10 (Vm.wr .i64 y) (Int.tmod (Vm.wr .i64 y) (.ofNat 11)) (Vm.wr .i64 (Vm.iadd (Int.tmod (Vm.wr .i64 y) (.ofNat 11)) 1))) (sm (call 12) x y 10) := by kernel_rfl
theorem rest10 (x y z : Int) : ups 11 0 (rest (call 12) x y 10 z) = true := by kernel_rfl
theorem nor11 (x y : Int) : (mid (call 13) x y 11).isNor = true := by kernel_rfl
theorem next11 (x y : Int) : Vm.qexcode c8.fst (call 13) M (fm (call 13) x y 11) (sm (call 13) x y 11) = .nor (fe (call 13) x y 11 (Vm.wr .i64 y) (Int.tmod (Vm.wr .i64 y) (.ofNat 12)) (Vm.wr .i64 (Vm.iadd (Int.tmod (Vm.wr .i64 y) (.ofNat 12)) 1))) (sm (call 13) x y 11) := by kernel_rfl
theorem rest11 (x y z : Int) : ups 12 0 (rest (call 13) x y 11 z) = true := by kernel_rfl
theorem nor12 (x y : Int) : (mid (call 14) x y 12).isNor = true := by kernel_rfl
theorem next12 (x y : Int) : Vm.qexcode c8.fst (call 14) M (fm (call 14) x y 12) (sm (call 14) x y 12) = .nor (fe (call 14) x y 12 (Vm.wr .i64 y) (Int.tmod (Vm.wr .i64 y) (.ofNat 13)) (Vm.wr .i64 (Vm.iadd (Int.tmod (Vm.wr .i64 y) (.ofNat 13)) 1))) (sm (call 14) x y 12) := by kernel_rfl
theorem rest12 (x y z : Int) : ups 13 0 (rest (call 14) x y 12 z) = true := by kernel_rfl
theorem nor13 (x y : Int) : (mid (call 15) x y 13).isNor = true := by kernel_rfl
theorem next13 (x y : Int) : Vm.qexcode c8.fst (call 15) M (fm (call 15) x y 13) (sm (call 15) x y 13) = .nor (fe (call 15) x y 13 (Vm.wr .i64 y) (Int.tmod (Vm.wr .i64 y) (.ofNat 14)) (Vm.wr .i64 (Vm.iadd (Int.tmod (Vm.wr .i64 y) (.ofNat 14)) 1))) (sm (call 15) x y 13) := by kernel_rfl
theorem rest13 (x y z : Int) : ups 14 0 (rest (call 15) x y 13 z) = true := by kernel_rfl
theorem nor14 (x y : Int) : (mid (call 16) x y 14).isNor = true := by kernel_rfl
theorem next14 (x y : Int) : Vm.qexcode c8.fst (call 16) M (fm (call 16) x y 14) (sm (call 16) x y 14) = .nor (fe (call 16) x y 14 (Vm.wr .i64 y) (Int.tmod (Vm.wr .i64 y) (.ofNat 15)) (Vm.wr .i64 (Vm.iadd (Int.tmod (Vm.wr .i64 y) (.ofNat 15)) 1))) (sm (call 16) x y 14) := by kernel_rfl
theorem rest14 (x y z : Int) : ups 15 0 (rest (call 16) x y 14 z) = true := by kernel_rfl
theorem nor15 (x y : Int) : (mid (call 17) x y 15).isNor = true := by kernel_rfl
theorem next15 (x y : Int) : Vm.qexcode c8.fst (call 17) M (fm (call 17) x y 15) (sm (call 17) x y 15) = .nor (fe (call 17) x y 15 (Vm.wr .i64 y) (Int.tmod (Vm.wr .i64 y) (.ofNat 16)) (Vm.wr .i64 (Vm.iadd (Int.tmod (Vm.wr .i64 y) (.ofNat 16)) 1))) (sm (call 17) x y 15) := by kernel_rfl
theorem rest15 (x y z : Int) : ups 16 0 (rest (call 17) x y 15 z) = true := by kernel_rfl
theorem nor16 (x y : Int) : (mid (call 18) x y 16).isNor = true := by kernel_rfl
theorem next16 (x y : Int) : Vm.qexcode c8.fst (call 18) M (fm (call 18) x y 16) (sm (call 18) x y 16) = .nor (fe (call 18) x y 16 (Vm.wr .i64 y) (Int.tmod (Vm.wr .i64 y) (.ofNat 17)) (Vm.wr .i64 (Vm.iadd (Int.tmod (Vm.wr .i64 y) (.ofNat 17)) 1))) (sm (call 18) x y 16) := by kernel_rfl
theorem rest16 (x y z : Int) : ups 17 0 (rest (call 18) x y 16 z) = true := by kernel_rfl
theorem nor17 (x y : Int) : (mid (call 19) x y 17).isNor = true := by kernel_rfl
theorem next17 (x y : Int) : Vm.qexcode c8.fst (call 19) M (fm (call 19) x y 17) (sm (call 19) x y 17) = .nor (fe (call 19) x y 17 (Vm.wr .i64 y) (Int.tmod (Vm.wr .i64 y) (.ofNat 18)) (Vm.wr .i64 (Vm.iadd (Int.tmod (Vm.wr .i64 y) (.ofNat 18)) 1))) (sm (call 19) x y 17) := by kernel_rfl
theorem rest17 (x y z : Int) : ups 18 0 (rest (call 19) x y 17 z) = true := by kernel_rfl
theorem nor18 (x y : Int) : (mid (call 20) x y 18).isNor = true := by kernel_rfl
theorem next18 (x y : Int) : Vm.qexcode c8.fst (call 20) M (fm (call 20) x y 18) (sm (call 20) x y 18) = .nor (fe (call 20) x y 18 (Vm.wr .i64 y) (Int.tmod (Vm.wr .i64 y) (.ofNat 19)) (Vm.wr .i64 (Vm.iadd (Int.tmod (Vm.wr .i64 y) (.ofNat 19)) 1))) (sm (call 20) x y 18) := by kernel_rfl
theorem rest18 (x y z : Int) : ups 19 0 (rest (call 20) x y 18 z) = true := by kernel_rfl
theorem nor19 (x y : Int) : (mid (call 21) x y 19).isNor = true := by kernel_rfl
theorem next19 (x y : Int) : Vm.qexcode c8.fst (call 21) M (fm (call 21) x y 19) (sm (call 21) x y 19) = .nor (fe (call 21) x y 19 (Vm.wr .i64 y) (Int.tmod (Vm.wr .i64 y) (.ofNat 20)) (Vm.wr .i64 (Vm.iadd (Int.tmod (Vm.wr .i64 y) (.ofNat 20)) 1))) (sm (call 21) x y 19) := by kernel_rfl
theorem rest19 (x y z : Int) : ups 20 0 (rest (call 21) x y 19 z) = true := by kernel_rfl
theorem nor20 (x y : Int) : (mid (call 22) x y 20).isNor = true := by kernel_rfl
theorem next20 (x y : Int) : Vm.qexcode c8.fst (call 22) M (fm (call 22) x y 20) (sm (call 22) x y 20) = .nor (fe (call 22) x y 20 (Vm.wr .i64 y) (Int.tmod (Vm.wr .i64 y) (.ofNat 21)) (Vm.wr .i64 (Vm.iadd (Int.tmod (Vm.wr .i64 y) (.ofNat 21)) 1))) (sm (call 22) x y 20) := by kernel_rfl
theorem rest20 (x y z : Int) : ups 21 0 (rest (call 22) x y 20 z) = true := by kernel_rfl
theorem nor21 (x y : Int) : (mid (call 23) x y 21).isNor = true := by kernel_rfl
theorem next21 (x y : Int) : Vm.qexcode c8.fst (call 23) M (fm (call 23) x y 21) (sm (call 23) x y 21) = .nor (fe (call 23) x y 21 (Vm.wr .i64 y) (Int.tmod (Vm.wr .i64 y) (.ofNat 22)) (Vm.wr .i64 (Vm.iadd (Int.tmod (Vm.wr .i64 y) (.ofNat 22)) 1))) (sm (call 23) x y 21) := by kernel_rfl
theorem rest21 (x y z : Int) : ups 22 0 (rest (call 23) x y 21 z) = true := by kernel_rfl
theorem nor22 (x y : Int) : (mid (call 24) x y 22).isNor = true := by kernel_rfl
theorem next22 (x y : Int) : Vm.qexcode c8.fst (call 24) M (fm (call 24) x y 22) (sm (call 24) x y 22) = .nor (fe (call 24) x y 22 (Vm.wr .i64 y) (Int.tmod (Vm.wr .i64 y) (.ofNat 23)) (Vm.wr .i64 (Vm.iadd (Int.tmod (Vm.wr .i64 y) (.ofNat 23)) 1))) (sm (call 24) x y 22) := by kernel_rfl
theorem rest22 (x y z : Int) : ups 23 0 (rest (call 24) x y 22 z) = true := by kernel_rfl
theorem nor23 (x y : Int) : (mid (call 25) x y 23).isNor = true := by kernel_rfl
theorem next23 (x y : Int) : Vm.qexcode c8.fst (call 25) M (fm (call 25) x y 23) (sm (call 25) x y 23) = .nor (fe (call 25) x y 23 (Vm.wr .i64 y) (Int.tmod (Vm.wr .i64 y) (.ofNat 24)) (Vm.wr .i64 (Vm.iadd (Int.tmod (Vm.wr .i64 y) (.ofNat 24)) 1))) (sm (call 25) x y 23) := by kernel_rfl
theorem rest23 (x y z : Int) : ups 24 0 (rest (call 25) x y 23 z) = true := by kernel_rfl
theorem nor24 (x y : Int) : (mid (call 26) x y 24).isNor = true := by kernel_rfl
theorem next24 (x y : Int) : Vm.qexcode c8.fst (call 26) M (fm (call 26) x y 24) (sm (call 26) x y 24) = .nor (fe (call 26) x y 24 (Vm.wr .i64 y) (Int.tmod (Vm.wr .i64 y) (.ofNat 25)) (Vm.wr .i64 (Vm.iadd (Int.tmod (Vm.wr .i64 y) (.ofNat 25)) 1))) (sm (call 26) x y 24) := by kernel_rfl
theorem rest24 (x y z : Int) : ups 25 0 (rest (call 26) x y 24 z) = true := by kernel_rfl
theorem nor25 (x y : Int) : (mid (call 27) x y 25).isNor = true := by kernel_rfl
theorem next25 (x y : Int) : Vm.qexcode c8.fst (call 27) M (fm (call 27) x y 25) (sm (call 27) x y 25) = .nor (fe (call 27) x y 25 (Vm.wr .i64 y) (Int.tmod (Vm.wr .i64 y) (.ofNat 26)) (Vm.wr .i64 (Vm.iadd (Int.tmod (Vm.wr .i64 y) (.ofNat 26)) 1))) (sm (call 27) x y 25) := by kernel_rfl
theorem rest25 (x y z : Int) : ups 26 0 (rest (call 27) x y 25 z) = true := by kernel_rfl
theorem nor26 (x y : Int) : (mid (call 28) x y 26).isNor = true := by kernel_rfl
theorem next26 (x y : Int) : Vm.qexcode c8.fst (call 28) M (fm (call 28) x y 26) (sm (call 28) x y 26) = .nor (fe (call 28) x y 26 (Vm.wr .i64 y) (Int.tmod (Vm.wr .i64 y) (.ofNat 27)) (Vm.wr .i64 (Vm.iadd (Int.tmod (Vm.wr .i64 y) (.ofNat 27)) 1))) (sm (call 28) x y 26) := by kernel_rfl
theorem rest26 (x y z : Int) : ups 27 0 (rest (call 28) x y 26 z) = true := by kernel_rfl
theorem nor27 (x y : Int) : (mid (call 29) x y 27).isNor = true := by kernel_rfl
theorem next27 (x y : Int) : Vm.qexcode c8.fst (call 29) M (fm (call 29) x y 27) (sm (call 29) x y 27) = .nor (fe (call 29) x y 27 (Vm.wr .i64 y) (Int.tmod (Vm.wr .i64 y) (.ofNat 28)) (Vm.wr .i64 (Vm.iadd (Int.tmod (Vm.wr .i64 y) (.ofNat 28)) 1))) (sm (call 29) x y 27) := by kernel_rfl
theorem rest27 (x y z : Int) : ups 28 0 (rest (call 29) x y 27 z) = true := by kernel_rfl
theorem nor28 (x y : Int) : (mid (call 30) x y 28).isNor = true := by kernel_rfl
theorem next28 (x y : Int) : Vm.qexcode c8.fst (call 30) M (fm (call 30) x y 28) (sm (call 30) x y 28) = .nor (fe (call 30) x y 28 (Vm.wr .i64 y) (Int.tmod (Vm.wr .i64 y) (.ofNat 29)) (Vm.wr .i64 (Vm.iadd (Int.tmod (Vm.wr .i64 y) (.ofNat 29)) 1))) (sm (call 30) x y 28) := by kernel_rfl
theorem rest28 (x y z : Int) : ups 29 0 (rest (call 30) x y 28 z) = true := by kernel_rfl
theorem nor29 (x y : Int) : (mid (call 31) x y 29).isNor = true := by kernel_rfl
theorem next29 (x y : Int) : Vm.qexcode c8.fst (call 31) M (fm (call 31) x y 29) (sm (call 31) x y 29) = .nor (fe (call 31) x y 29 (Vm.wr .i64 y) (Int.tmod (Vm.wr .i64 y) (.ofNat 30)) (Vm.wr .i64 (Vm.iadd (Int.tmod (Vm.wr .i64 y) (.ofNat 30)) 1))) (sm (call 31) x y 29) := by kernel_rfl
theorem rest29 (x y z : Int) : ups 30 0 (rest (call 31) x y 29 z) = true := by kernel_rfl
theorem nors (x y : Int) : ∀ m : Nat, m < 30 → (mid (call (m + 2)) x y m).isNor = true
  | 0, _ => nor0 x y
  | 1, _ => nor1 x y
  | 2, _ => nor2 x y
  | 3, _ => nor3 x y
  | 4, _ => nor4 x y
  | 5, _ => nor5 x y
  | 6, _ => nor6 x y
  | 7, _ => nor7 x y
  | 8, _ => nor8 x y
  | 9, _ => nor9 x y
  | 10, _ => nor10 x y
  | 11, _ => nor11 x y
  | 12, _ => nor12 x y
  | 13, _ => nor13 x y
  | 14, _ => nor14 x y
  | 15, _ => nor15 x y
  | 16, _ => nor16 x y
  | 17, _ => nor17 x y
  | 18, _ => nor18 x y
  | 19, _ => nor19 x y
  | 20, _ => nor20 x y
  | 21, _ => nor21 x y
  | 22, _ => nor22 x y
  | 23, _ => nor23 x y
  | 24, _ => nor24 x y
  | 25, _ => nor25 x y
  | 26, _ => nor26 x y
  | 27, _ => nor27 x y
  | 28, _ => nor28 x y
  | 29, _ => nor29 x y
  | _ + 30, h => absurd h (by omega)
theorem nexts (x y : Int) : ∀ m : Nat, m < 30 → Vm.qexcode c8.fst (call (m + 2)) M (fm (call (m + 2)) x y m) (sm (call (m + 2)) x y m) = .nor (fe (call (m + 2)) x y m (Vm.wr .i64 y) (Int.tmod (Vm.wr .i64 y) (.ofNat (m + 1))) (Vm.wr .i64 (Vm.iadd (Int.tmod (Vm.wr .i64 y) (.ofNat (m + 1))) 1))) (sm (call (m + 2)) x y m)
  | 0, _ => next0 x y
  | 1, _ => next1 x y
  | 2, _ => next2 x y
  | 3, _ => next3 x y
  | 4, _ => next4 x y
  | 5, _ => next5 x y
  | 6, _ => next6 x y
  | 7, _ => next7 x y
  | 8, _ => next8 x y
  | 9, _ => next9 x y
  | 10, _ => next10 x y
  | 11, _ => next11 x y
  | 12, _ => next12 x y
  | 13, _ => next13 x y
  | 14, _ => next14 x y
  | 15, _ => next15 x y
  | 16, _ => next16 x y
  | 17, _ => next17 x y
  | 18, _ => next18 x y
  | 19, _ => next19 x y
  | 20, _ => next20 x y
  | 21, _ => next21 x y
  | 22, _ => next22 x y
  | 23, _ => next23 x y
  | 24, _ => next24 x y
  | 25, _ => next25 x y
  | 26, _ => next26 x y
  | 27, _ => next27 x y
  | 28, _ => next28 x y
  | 29, _ => next29 x y
  | _ + 30, h => absurd h (by omega)
theorem rests (x y z : Int) : ∀ m : Nat, m < 30 → ups (m + 1) 0 (rest (call (m + 2)) x y m z) = true
  | 0, _ => rest0 x y z
  | 1, _ => rest1 x y z
  | 2, _ => rest2 x y z
  | 3, _ => rest3 x y z
  | 4, _ => rest4 x y z
  | 5, _ => rest5 x y z
  | 6, _ => rest6 x y z
  | 7, _ => rest7 x y z
  | 8, _ => rest8 x y z
  | 9, _ => rest9 x y z
  | 10, _ => rest10 x y z
  | 11, _ => rest11 x y z
  | 12, _ => rest12 x y z
  | 13, _ => rest13 x y z
  | 14, _ => rest14 x y z
  | 15, _ => rest15 x y z
  | 16, _ => rest16 x y z
  | 17, _ => rest17 x y z
  | 18, _ => rest18 x y z
  | 19, _ => rest19 x y z
  | 20, _ => rest20 x y z
  | 21, _ => rest21 x y z
  | 22, _ => rest22 x y z
  | 23, _ => rest23 x y z
  | 24, _ => rest24 x y z
  | 25, _ => rest25 x y z
  | 26, _ => rest26 x y z
  | 27, _ => rest27 x y z
  | 28, _ => rest28 x y z
  | 29, _ => rest29 x y z
  | _ + 30, h => absurd h (by omega)
theorem wr_small (n : Nat) (h : n < 1000) : Vm.wr .i64 (.ofNat n) = .ofNat n := by
  rw [Vm.wr_eq]
  simp only [IntKind.wrap, IntKind.bits, IntKind.signed]
  simp
  omega
theorem all_at (x y : Nat) (hy : y < 256) : Vm.says true (Vm.evF (call (x % 30 + 2)) M law [.int .u8 (.ofNat x), .int .u8 (.ofNat y)] .empty) = true := by
  have hm : x % 30 < 30 := Nat.mod_lt _ (by decide)
  generalize hmm : x % 30 = m at hm ⊢
  have e1 : (Int.ofNat x).tmod 30 = .ofNat m := by rw [← hmm]; rfl
  have hq : y % (m + 1) < m + 1 := Nat.mod_lt _ (by omega)
  have e2 : Int.tmod (Int.ofNat y) (.ofNat (m + 1)) = .ofNat (y % (m + 1)) := rfl
  rw [Vm.evF_mk law_mk (by kernel_rfl), ← Vm.qexcode_eq, Vm.qseq_nor c0_seq (s0 _ _ _)]
  show Vm.says true (Vm.fin _ (Vm.qexcode c1 (call (m + 2)) M (f1 (.ofNat x) (.ofNat y)) .empty)) = true
  rw [Vm.qseq_nor c1_seq (s1 _ _ _)]
  show Vm.says true (Vm.fin _ (Vm.qexcode c2 (call (m + 2)) M (f2 (.ofNat x) (.ofNat y)) .empty)) = true
  rw [Vm.qseq_nor c2_seq (s2 _ _ _), e1]
  have e3 : Vm.wr .i64 (Vm.iadd (Vm.wr .i64 (.ofNat m)) 2) = .ofNat (m + 2) := by
    rw [wr_small m (by omega)]
    exact wr_small (m + 2) (by omega)
  rw [e3]
  show Vm.says true (Vm.fin _ (Vm.qexcode c3 (call (m + 2)) M (f3 (.ofNat x) (.ofNat y) (.ofNat m) (.ofNat (m + 2))) .empty)) = true
  have r3 : ∀ f s, Vm.qexcode c3 (call (m + 2)) M f s = Vm.qseqK (Vm.qexcode c4 (call (m + 2)) M) (Vm.qexcode c3.fst (call (m + 2)) M f s) := fun f s => Vm.qseq_run c3_seq
  have r4 : ∀ r, Vm.qseqK (Vm.qexcode c4 (call (m + 2)) M) r = Vm.qseqK (Vm.qexcode c5 (call (m + 2)) M) (Vm.qseqK (Vm.qexcode c4.fst (call (m + 2)) M) r) := fun r => Vm.qseq_bind c4_seq
  have r5 : ∀ r, Vm.qseqK (Vm.qexcode c5 (call (m + 2)) M) r = Vm.qseqK (Vm.qexcode c6 (call (m + 2)) M) (Vm.qseqK (Vm.qexcode c5.fst (call (m + 2)) M) r) := fun r => Vm.qseq_bind c5_seq
  have r6 : ∀ r, Vm.qseqK (Vm.qexcode c6 (call (m + 2)) M) r = Vm.qseqK (Vm.qexcode c7 (call (m + 2)) M) (Vm.qseqK (Vm.qexcode c6.fst (call (m + 2)) M) r) := fun r => Vm.qseq_bind c6_seq
  have r7 : ∀ r, Vm.qseqK (Vm.qexcode c7 (call (m + 2)) M) r = Vm.qseqK (Vm.qexcode c8 (call (m + 2)) M) (Vm.qseqK (Vm.qexcode c7.fst (call (m + 2)) M) r) := fun r => Vm.qseq_bind c7_seq
  rw [r3, r4, r5, r6, r7]
  have e4 := Vm.RC.nor_of (nors (.ofNat x) (.ofNat y) m hm)
  have e5 : Vm.qseqK (Vm.qexcode c8 (call (m + 2)) M) (mid (call (m + 2)) (.ofNat x) (.ofNat y) m) = Vm.qexcode c8 (call (m + 2)) M (fm (call (m + 2)) (.ofNat x) (.ofNat y) m) (sm (call (m + 2)) (.ofNat x) (.ofNat y) m) := by
    rw [e4]; rfl
  refine Eq.trans (congrArg (fun r => Vm.says true (Vm.fin law.res r)) e5) ?_
  have e6 := nexts (.ofNat x) (.ofNat y) m hm
  rw [wr_small y (by omega), e2] at e6
  have e7 : Vm.wr .i64 (Vm.iadd (.ofNat (y % (m + 1))) 1) = .ofNat (y % (m + 1) + 1) := wr_small (y % (m + 1) + 1) (by omega)
  rw [e7] at e6
  rw [Vm.qseq_nor c8_seq e6]
  exact ups_at (rests (.ofNat x) (.ofNat y) (.ofNat y) m hm) (y % (m + 1)) (Nat.zero_le _) (by omega)
end Go.Proofs.Ytggeadnjikpjnaa.satChains
