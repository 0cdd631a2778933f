/- What is told; the known cases. No condition. -/
import Derived.Test.YtdamhfbdogkkjaaGreatDoorLibB
import Derived.Test.YtdamhfbdogkkjaaGreatDoorVmQ
namespace Go.Proofs.YtdamhfbdogkkjaaGreatDoor
open Go Go.Vm
set_option linter.unusedVariables false
set_option maxRecDepth 100000
noncomputable def txt0 : List UInt8 := [110, 111, 116, 32, 97, 110, 100, 32, 111, 114, 32, 120, 111, 114, 32, 61, 62, 32, 61, 32, 100, 105, 115, 116, 105, 110, 99, 116, 32, 105, 116, 101, 32, 43, 32, 45, 32, 42, 32, 100, 105, 118, 32, 109, 111, 100, 32, 97, 98, 115, 32, 60, 61, 32, 60, 32, 62, 61, 32, 62]
noncomputable def wds0 : List (List UInt8) := [[110, 111, 116], [97, 110, 100], [111, 114], [120, 111, 114], [61, 62], [61], [100, 105, 115, 116, 105, 110, 99, 116], [105, 116, 101], [43], [45], [42], [100, 105, 118], [109, 111, 100], [97, 98, 115], [60, 61], [60], [62, 61], [62]]
theorem fld0 : Ok 23 [.str txt0] (strs wds0) := fields_seen txt0 wds0 (by kernel_rfl) (by decide +kernel) (by decide +kernel) (by kernel_rfl)
noncomputable def txt1 : List UInt8 := [116, 114, 117, 101, 32, 102, 97, 108, 115, 101, 32, 108, 101, 116, 32, 73, 110, 116, 32, 66, 111, 111, 108]
noncomputable def wds1 : List (List UInt8) := [[116, 114, 117, 101], [102, 97, 108, 115, 101], [108, 101, 116], [73, 110, 116], [66, 111, 111, 108]]
theorem fld1 : Ok 23 [.str txt1] (strs wds1) := fields_seen txt1 wds1 (by kernel_rfl) (by decide +kernel) (by decide +kernel) (by kernel_rfl)
noncomputable def txt2 : List UInt8 := [116, 114, 117, 101, 32, 102, 97, 108, 115, 101, 32, 73, 110, 116, 32, 66, 111, 111, 108]
noncomputable def wds2 : List (List UInt8) := [[116, 114, 117, 101], [102, 97, 108, 115, 101], [73, 110, 116], [66, 111, 111, 108]]
theorem fld2 : Ok 23 [.str txt2] (strs wds2) := fields_seen txt2 wds2 (by kernel_rfl) (by decide +kernel) (by decide +kernel) (by kernel_rfl)
theorem ato1 : Ok 115 [.str [49]] (.tup [.int .i64 1, .nili]) := atoi_seen [49] 1 (by kernel_rfl) (by decide +kernel) (by kernel_rfl)
theorem ato2 : Ok 115 [.str [50]] (.tup [.int .i64 2, .nili]) := atoi_seen [50] 2 (by kernel_rfl) (by decide +kernel) (by kernel_rfl)
theorem ato3 : Ok 115 [.str [51]] (.tup [.int .i64 3, .nili]) := atoi_seen [51] 3 (by kernel_rfl) (by decide +kernel) (by kernel_rfl)
theorem ato7 : Ok 115 [.str [55]] (.tup [.int .i64 7, .nili]) := atoi_seen [55] 7 (by kernel_rfl) (by decide +kernel) (by kernel_rfl)
noncomputable def sym : List UInt8 := [126, 33, 64, 36, 37, 94, 38, 42, 95, 45, 43, 61, 60, 62, 46, 63, 47]
theorem idx0 : Ok 140 [.str sym, .int .u8 42] (.int .i64 7) := index_seen sym 42 7 (by kernel_rfl) (by kernel_rfl)
theorem idx1 : Ok 140 [.str sym, .int .u8 43] (.int .i64 10) := index_seen sym 43 10 (by kernel_rfl) (by kernel_rfl)
theorem idx2 : Ok 140 [.str sym, .int .u8 45] (.int .i64 9) := index_seen sym 45 9 (by kernel_rfl) (by kernel_rfl)
theorem idx3 : Ok 140 [.str sym, .int .u8 60] (.int .i64 12) := index_seen sym 60 12 (by kernel_rfl) (by kernel_rfl)
theorem idx4 : Ok 140 [.str sym, .int .u8 61] (.int .i64 11) := index_seen sym 61 11 (by kernel_rfl) (by kernel_rfl)
theorem idx5 : Ok 140 [.str sym, .int .u8 62] (.int .i64 13) := index_seen sym 62 13 (by kernel_rfl) (by kernel_rfl)
noncomputable def table : Tab (List (List AV × AV)) :=
  (Vm.Id.ofNat 23).set [([.str txt0], strs wds0), ([.str txt1], strs wds1), ([.str txt2], strs wds2)] (
  (Vm.Id.ofNat 115).set [([.str [49]], .tup [.int .i64 1, .nili]), ([.str [50]], .tup [.int .i64 2, .nili]), ([.str [51]], .tup [.int .i64 3, .nili]), ([.str [55]], .tup [.int .i64 7, .nili])] (
  (Vm.Id.ofNat 140).set [([.str sym, .int .u8 42], .int .i64 7), ([.str sym, .int .u8 43], .int .i64 10), ([.str sym, .int .u8 45], .int .i64 9), ([.str sym, .int .u8 60], .int .i64 12), ([.str sym, .int .u8 61], .int .i64 11), ([.str sym, .int .u8 62], .int .i64 13)] (
  (Vm.Id.ofNat 52).set [([two], .str [50])] (.rep []))))
theorem table_ok : ∀ (g : Vm.Id) (e : List AV × AV), e ∈ g.get table → Has Tryz.prog g.val ∧ Seen Tryz.prog g.val e.1 e.2 := by
  have v23 : (Vm.Id.ofNat 23).val = 23 := by kernel_rfl
  have v115 : (Vm.Id.ofNat 115).val = 115 := by kernel_rfl
  have v140 : (Vm.Id.ofNat 140).val = 140 := by kernel_rfl
  have v52 : (Vm.Id.ofNat 52).val = 52 := by kernel_rfl
  intro g e he
  unfold table at he
  simp only [Vm.Id.get_set, Vm.Id.get_rep] at he
  split at he
  · rename_i hg
    subst hg
    simp only [List.mem_cons, List.not_mem_nil, or_false] at he
    rw [v23]
    rcases he with rfl | rfl | rfl
    · exact fld0
    · exact fld1
    · exact fld2
  split at he
  · rename_i hg
    subst hg
    simp only [List.mem_cons, List.not_mem_nil, or_false] at he
    rw [v115]
    rcases he with rfl | rfl | rfl | rfl
    · exact ato1
    · exact ato2
    · exact ato3
    · exact ato7
  split at he
  · rename_i hg
    subst hg
    simp only [List.mem_cons, List.not_mem_nil, or_false] at he
    rw [v140]
    rcases he with rfl | rfl | rfl | rfl | rfl | rfl
    · exact idx0
    · exact idx1
    · exact idx2
    · exact idx3
    · exact idx4
    · exact idx5
  split at he
  · rename_i hg
    subst hg
    simp only [List.mem_cons, List.not_mem_nil, or_false] at he
    rw [v52]
    rcases he with rfl
    · exact nat_seen
  simp at he
theorem hdr : ∀ call, SoundCall Tryz.prog call → DrawnOk Tryz.prog call := Vm.drawn_ok follows
/-- Calls, of which those of the table are told. -/
noncomputable def base1 : CallT := qevP (pkT table) code 1000000
theorem base1_sound : SoundCall Tryz.prog base1 := qevP_sound hdr (pkT_sound table_ok) _
/-! ### let -/
noncomputable def ab : Code := Tryz.f42.body.getD .skip
noncomputable def ab8 : Code := cSnd (cSnd (cSnd (cSnd (cSnd (cSnd (cSnd (cSnd ab)))))))
noncomputable def aL : Code := cFst ab8
noncomputable def aX : Code := cIn (cIn (cSnd aL))
noncomputable def aX2 : Code := cSnd aX
noncomputable def a67 : Code := cIn (cSnd aX2)
noncomputable def l5 : List Oper := (cOps (cFst aX)).toList
noncomputable def l6 : List Oper := (cOps (cFst a67)).toList
noncomputable def l4 : List Oper := (cOps (cFst aL)).toList
noncomputable def nt : Nat := Tryz.f42.ntmps
noncomputable def letT : Turning Tryz.prog Tryz.f42.ntmps where
  id5 := cId (cFst aX)
  id6 := cId (cFst a67)
  id0 := cId (cSnd aL)
  id1 := cId (cSnd aX2)
  ops5 := cOps (cFst aX)
  ops6 := cOps (cFst a67)
  o2 := oAt l5 0
  o4 := oAt l6 0
  l5 := l5.tail
  l6 := l6.tail
  it := 79
  nx := (copD nt (oAt l5 0).dst).getD .none
  en := (copD nt (oAt l6 0).dst).getD .none
  c5 := (l5.tail.mapM (copR Tryz.prog nt (cOps (cFst aX)))).getD []
  c6 := (l6.tail.mapM (copR Tryz.prog nt (cOps (cFst a67)))).getD []
  cnd := cCnd (cFst aX2)
  b := (cod (cCnd (cFst aX2))).getD (.c .nilp)
  C7 := cSnd a67
  c7 := (cc Tryz.prog nt (cSnd a67)).getD .skip
  hit := by decide
  h5 := by kernel_rfl
  hop2 := by kernel_rfl
  hg2 := by kernel_rfl
  hd2 := by kernel_rfl
  hc5 := by kernel_rfl
  h6 := by kernel_rfl
  hop4 := by kernel_rfl
  hg4 := by kernel_rfl
  hd4 := by kernel_rfl
  hc6 := by kernel_rfl
  hb := by kernel_rfl
  h7 := by kernel_rfl
noncomputable def pre : List Code := [cFst ab, cFst (cSnd ab), cFst (cSnd (cSnd ab)), cFst (cSnd (cSnd (cSnd ab))), cFst (cSnd (cSnd (cSnd (cSnd ab)))), cFst (cSnd (cSnd (cSnd (cSnd (cSnd ab))))), cFst (cSnd (cSnd (cSnd (cSnd (cSnd (cSnd ab)))))), cFst (cSnd (cSnd (cSnd (cSnd (cSnd (cSnd (cSnd ab)))))))]
noncomputable def letM : MapFn0 Tryz.prog 42 where
  fn := Tryz.f42
  b := ab
  rs := (Tryz.f42.results.toList.mapM (copRes Tryz.prog)).getD []
  hf := Tryz.func42
  hb := by kernel_rfl
  hname := by decide
  hrs := by kernel_rfl
  hnt := by decide
  T := letT
  pre := pre
  cpre := (pre.mapM (cc Tryz.prog nt)).getD []
  hpre := by kernel_rfl
  post := cSnd ab8
  cpost := (cc Tryz.prog nt (cSnd ab8)).getD .skip
  hpost := by kernel_rfl
  id4 := cId (cFst aL)
  ops4 := cOps (cFst aL)
  c0 := (([oAt l4 0, oAt l4 1] : List Oper).mapM (copR Tryz.prog nt (cOps (cFst aL)))).getD []
  cd1 := (copD nt (oAt l4 2).dst).getD .none
  x := 78
  hR := ⟨⟨[oAt l4 0, oAt l4 1], oAt l4 2, 58, 9, 35, by kernel_rfl, by kernel_rfl, by decide, by kernel_rfl, by kernel_rfl, by kernel_rfl, by kernel_rfl⟩⟩
  hbody := by kernel_rfl
noncomputable def pk2 : Vm.Id → List AV → St → Option (List AV × AV) := pkOr (pkT table) (letM.pick base1 1000000 (.ofNat 42))
noncomputable def base2 : CallT := qevP pk2 code 1000000
theorem pk2_sound : ∀ call, SoundCall Tryz.prog call → SoundCall Tryz.prog (picks pk2 call) :=
  pkOr_sound (pkT_sound table_ok) fun call h => letM.sound base1 1000000 base1_sound hdr (by kernel_rfl) h
theorem base2_sound : SoundCall Tryz.prog base2 := qevP_sound hdr pk2_sound _
end Go.Proofs.YtdamhfbdogkkjaaGreatDoor
namespace Go.Proofs.YtdamhfbdogkkjaaGreatDoor
open Go Go.Vm
set_option linter.unusedVariables false
set_option maxRecDepth 100000
theorem known_seen : sees base2 (.ofNat 6) ([], .bool true) = true := by kernel_rfl
noncomputable def pk3 : Vm.Id → List AV → St → Option (List AV × AV) := pkOr (pkBy (.ofNat 6) (fun _ _ => 0) 0 (fun _ => []) fun _ => .bool true) pk2
noncomputable def base3 : CallT := qevP pk3 code 1000000
theorem pk3_sound : ∀ call, SoundCall Tryz.prog call → SoundCall Tryz.prog (picks pk3 call) :=
  pkOr_sound (pkOne_sound (seen_of base2_sound known_seen).1 (seen_of base2_sound known_seen).2) pk2_sound
theorem base3_sound : SoundCall Tryz.prog base3 := qevP_sound hdr pk3_sound _
end Go.Proofs.YtdamhfbdogkkjaaGreatDoor
