/- Terms within terms: what the law is evaluated over. No condition. -/
import Derived.Test.YtjnejkganejdbaaGreatBase
namespace Go.Proofs.Ytjnejkganejdbaa.termGreat
set_option linter.unusedVariables false
set_option maxRecDepth 100000
open Vm hiding Id Told
/-- So many names within one and. -/
noncomputable def wide (r : Nat) : List AV := [num 6, .bool false, .nils, .str [], num 1, .ts (flat (398 + r)) (398 + r) (398 + r) false]
noncomputable def lenOf (v : AV) : Nat := AV.onSl v 0 0 (fun _ _ l _ _ => l) fun _ l _ _ => l
noncomputable def kidsOf (l : List AV) : AV := Option.rec .nilp (fun v => v) (nth 5 l)
noncomputable def pkFC : Pk := pkBy (.ofNat 11) (fun args _ => lenOf (kidsOf (AV.onAgg (arg0 args) [] fun cs => cs)) - 398) 2 (fun r => [.agg (wide r)]) fun r => num (399 + r)
noncomputable def pkFN : Pk := pkBy (.ofNat 43) (fun args s => lenOf (kidsOf (cellsOf s (arg0 args))) - 398) 1 (fun r => [.ts (wide r) 1 1 false]) fun r => .bool true
noncomputable def pkFM : Pk := pkBy (.ofNat 8) (fun args _ => lenOf (arg1 args) - 398) 2 (fun r => [num 6, .ts (flat (398 + r)) (398 + r) (398 + r) false]) fun r => br (Nat.ble r 1) (.tup [.agg (wide r), num 0]) (.tup [.agg none_, num 11])
noncomputable def checkFC (r : Nat) : Bool := sees base0 (.ofNat 11) ([.agg (wide r)], num (399 + r))
noncomputable def checkFN (r : Nat) : Bool := sees base0 (.ofNat 43) ([.ts (wide r) 1 1 false], .bool true)
noncomputable def baseF : CallT := qevP (pkOr pkCN pkFC) code M
noncomputable def checkFM (r : Nat) : Bool := sees baseF (.ofNat 8) ([num 6, .ts (flat (398 + r)) (398 + r) (398 + r) false], br (Nat.ble r 1) (.tup [.agg (wide r), num 0]) (.tup [.agg none_, num 11]))
noncomputable def pkK : Pk := pkBy (.ofNat 6) (fun _ _ => 0) 0 (fun _ => []) fun _ => .bool true
noncomputable def told (call : CallT) : CallT := picks pkK (picksF pkM (picks pkFM (picks pkCN (picks pkFC (picks pkFN call)))))
noncomputable def call : CallT := qevX told code M
noncomputable def law : CF := (Vm.Id.ofNat 4).get code
theorem law_mk : law = .mk law.nt law.res law.body := by kernel_rfl
noncomputable def c1 : CC := law.body.snd
noncomputable def c2 : CC := c1.snd
noncomputable def c3 : CC := c2.snd
theorem c0_seq : law.body = .seq law.body.fst law.body.snd := by kernel_rfl
theorem c1_seq : c1 = .seq c1.fst c1.snd := by kernel_rfl
theorem c2_seq : c2 = .seq c2.fst c2.snd := by kernel_rfl
noncomputable def at_ (k : Nat) (v : AV) (f : Fr AV) : Fr AV := (Sl.ofNat k).set v f
noncomputable def f1 (x : Int) (b : Bool) : Fr AV := at_ 4 (.bool false) (frame0 [.int .u8 x, .bool b])
noncomputable def f2 (x : Int) (b : Bool) : Fr AV := at_ 12 (.bool false) (at_ 11 (.bool true) (f1 x b))
noncomputable def f3 (x : Int) (b : Bool) (m k : Int) : Fr AV := at_ 5 (.int .i64 k) (at_ 16 (.int .i64 k) (at_ 15 (.int .i64 (wr .i64 m)) (at_ 14 (.int .u8 m) (at_ 13 (.int .u8 x) (f2 x b)))))
theorem s0 (T : CallT) (x : Int) (b : Bool) : qexcode law.body.fst T M (frame0 [.int .u8 x, .bool b]) .empty = .nor (f1 x b) .empty := by kernel_rfl
theorem s1 (x : Int) (b : Bool) : qexcode c1.fst call M (f1 x b) .empty = .nor (f2 x b) .empty := by kernel_rfl
theorem s2 (T : CallT) (x : Int) (b : Bool) : qexcode c2.fst T M (f2 x b) .empty = .nor (f3 x b (x.tmod 3) (wr .i64 (iadd 398 (wr .i64 (x.tmod 3))))) .empty := by kernel_rfl
noncomputable def rest (x : Int) (b : Bool) (r : Nat) : Bool := says true (fin law.res (qexcode c3 call M (f3 x b (.ofNat r) (.ofNat (398 + r))) .empty))
end Go.Proofs.Ytjnejkganejdbaa.termGreat
