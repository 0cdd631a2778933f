/- Terms within terms, beside terms: the law over what is told. No condition. -/
import Derived.Test.YtjnejkganejdbaaGreatCountA
import Derived.Test.YtjnejkganejdbaaGreatCountB
import Derived.Test.YtjnejkganejdbaaGreatCountC
import Derived.Test.YtjnejkganejdbaaGreatNodes
import Derived.Test.YtjnejkganejdbaaGreatMade
import Derived.Test.YtjnejkganejdbaaGreatWide
import Derived.Test.YtjnejkganejdbaaGreatDeep
namespace Go.Proofs.Ytjnejkganejdbaa.termGreat
set_option linter.unusedVariables false
set_option maxRecDepth 100000
open Vm hiding Id Told
theorem count_all (j : Nat) (hj : j ≤ 400) : checkC j = true := if h : j < 83 then from_at count0 j (by omega) (by omega) else if h : j < 117 then from_at count83 j (by omega) (by omega) else if h : j < 143 then from_at count117 j (by omega) (by omega) else if h : j < 165 then from_at count143 j (by omega) (by omega) else if h : j < 185 then from_at count165 j (by omega) (by omega) else if h : j < 203 then from_at count185 j (by omega) (by omega) else if h : j < 219 then from_at count203 j (by omega) (by omega) else if h : j < 234 then from_at count219 j (by omega) (by omega) else if h : j < 248 then from_at count234 j (by omega) (by omega) else if h : j < 261 then from_at count248 j (by omega) (by omega) else if h : j < 274 then from_at count261 j (by omega) (by omega) else if h : j < 286 then from_at count274 j (by omega) (by omega) else if h : j < 298 then from_at count286 j (by omega) (by omega) else if h : j < 309 then from_at count298 j (by omega) (by omega) else if h : j < 320 then from_at count309 j (by omega) (by omega) else if h : j < 330 then from_at count320 j (by omega) (by omega) else if h : j < 340 then from_at count330 j (by omega) (by omega) else if h : j < 350 then from_at count340 j (by omega) (by omega) else if h : j < 359 then from_at count350 j (by omega) (by omega) else if h : j < 368 then from_at count359 j (by omega) (by omega) else if h : j < 377 then from_at count368 j (by omega) (by omega) else if h : j < 386 then from_at count377 j (by omega) (by omega) else if h : j < 395 then from_at count386 j (by omega) (by omega) else if h : j < 401 then from_at count395 j (by omega) (by omega) else absurd hj (by omega)
theorem nodes_all (j : Nat) (hj : j < 399) : checkN j = true := if h : j < 25 then from_at nodes0 j (by omega) (by omega) else if h : j < 50 then from_at nodes25 j (by omega) (by omega) else if h : j < 75 then from_at nodes50 j (by omega) (by omega) else if h : j < 100 then from_at nodes75 j (by omega) (by omega) else if h : j < 125 then from_at nodes100 j (by omega) (by omega) else if h : j < 150 then from_at nodes125 j (by omega) (by omega) else if h : j < 175 then from_at nodes150 j (by omega) (by omega) else if h : j < 200 then from_at nodes175 j (by omega) (by omega) else if h : j < 225 then from_at nodes200 j (by omega) (by omega) else if h : j < 250 then from_at nodes225 j (by omega) (by omega) else if h : j < 275 then from_at nodes250 j (by omega) (by omega) else if h : j < 300 then from_at nodes275 j (by omega) (by omega) else if h : j < 325 then from_at nodes300 j (by omega) (by omega) else if h : j < 350 then from_at nodes325 j (by omega) (by omega) else if h : j < 375 then from_at nodes350 j (by omega) (by omega) else if h : j < 399 then from_at nodes375 j (by omega) (by omega) else absurd hj (by omega)
theorem made_all (j : Nat) (hj : j ≤ 399) : checkM j = true := if h : j < 25 then from_at made0 j (by omega) (by omega) else if h : j < 50 then from_at made25 j (by omega) (by omega) else if h : j < 75 then from_at made50 j (by omega) (by omega) else if h : j < 100 then from_at made75 j (by omega) (by omega) else if h : j < 125 then from_at made100 j (by omega) (by omega) else if h : j < 150 then from_at made125 j (by omega) (by omega) else if h : j < 175 then from_at made150 j (by omega) (by omega) else if h : j < 200 then from_at made175 j (by omega) (by omega) else if h : j < 225 then from_at made200 j (by omega) (by omega) else if h : j < 250 then from_at made225 j (by omega) (by omega) else if h : j < 275 then from_at made250 j (by omega) (by omega) else if h : j < 300 then from_at made275 j (by omega) (by omega) else if h : j < 325 then from_at made300 j (by omega) (by omega) else if h : j < 350 then from_at made325 j (by omega) (by omega) else if h : j < 375 then from_at made350 j (by omega) (by omega) else if h : j < 400 then from_at made375 j (by omega) (by omega) else absurd hj (by omega)
theorem pkCN_sound (call : CallT) (hc : SoundCall Try.prog call) : SoundCall Try.prog (picks pkCN call) :=
  pkOr_sound (pkBy_sound (gid := .ofNat 11) (seenC count_all 0 (by omega)).1 fun d hd => (seenC count_all d hd).2) (pkBy_sound (gid := .ofNat 43) (seenN nodes_first nodes_all 0 (by omega)).1 fun d hd => (seenN nodes_first nodes_all d hd).2 d (Nat.le_refl _)) call hc
theorem baseM_sound : SoundCall Try.prog baseM := qevP_sound (Vm.drawn_ok follows) pkCN_sound M
theorem pkM_sound (call : CallT) (hc : SoundCall Try.prog call) : SoundCall Try.prog (picksF pkM call) :=
  pkByF_sound (gid := .ofNat 8) (seenF_of baseM_sound (g := .ofNat 8) (made_all 0 (by omega))).1 (fun d hd => (seenF_of baseM_sound (g := .ofNat 8) (made_all d hd)).2) call hc
theorem fc (r : Nat) (hr : r ≤ 2) : Has Try.prog 11 ∧ Seen Try.prog 11 [.agg (wide r)] (num (399 + r)) := by
  match r, hr with
  | 0, _ => exact seen_of base0_sound (g := .ofNat 11) wide_count0
  | 1, _ => exact seen_of base0_sound (g := .ofNat 11) wide_count1
  | 2, _ => exact seen_of base0_sound (g := .ofNat 11) wide_count2
theorem pkFC_sound (call : CallT) (hc : SoundCall Try.prog call) : SoundCall Try.prog (picks pkFC call) := pkBy_sound (gid := .ofNat 11) (fc 0 (by omega)).1 (fun r hr => (fc r hr).2) call hc
theorem fn (r : Nat) (hr : r ≤ 1) : Has Try.prog 43 ∧ Seen Try.prog 43 [.ts (wide r) 1 1 false] (.bool true) := by
  match r, hr with
  | 0, _ => exact seen_of base0_sound (g := .ofNat 43) wide_nodes0
  | 1, _ => exact seen_of base0_sound (g := .ofNat 43) wide_nodes1
theorem pkFN_sound (call : CallT) (hc : SoundCall Try.prog call) : SoundCall Try.prog (picks pkFN call) := pkBy_sound (gid := .ofNat 43) (fn 0 (by omega)).1 (fun r hr => (fn r hr).2) call hc
theorem baseF_sound : SoundCall Try.prog baseF := qevP_sound (Vm.drawn_ok follows) (pkOr_sound pkCN_sound pkFC_sound) M
theorem fm (r : Nat) (hr : r ≤ 2) : Has Try.prog 8 ∧ Seen Try.prog 8 [num 6, .ts (flat (398 + r)) (398 + r) (398 + r) false] (br (Nat.ble r 1) (.tup [.agg (wide r), num 0]) (.tup [.agg none_, num 11])) := by
  match r, hr with
  | 0, _ => exact seen_of baseF_sound (g := .ofNat 8) wide_made0
  | 1, _ => exact seen_of baseF_sound (g := .ofNat 8) wide_made1
  | 2, _ => exact seen_of baseF_sound (g := .ofNat 8) wide_made2
theorem pkFM_sound (call : CallT) (hc : SoundCall Try.prog call) : SoundCall Try.prog (picks pkFM call) := pkBy_sound (gid := .ofNat 8) (fm 0 (by omega)).1 (fun r hr => (fm r hr).2) call hc
theorem knownSees : sees (qevP pkAll code M) (.ofNat 6) ([], .bool true) = true := by
  have h := known_true
  unfold sees
  cases hq : qevP pkAll code M (.ofNat 6) [] .empty with
  | no => rw [hq] at h; cases h
  | ok v s =>
    rw [hq] at h
    have e : v = .bool true := like_ok (show like v (.bool true) = true from h)
    subst e; rfl
theorem pkK_sound (call : CallT) (hc : SoundCall Try.prog call) : SoundCall Try.prog (picks pkK call) := by
  have h := seen_of (qevP_sound (Vm.drawn_ok follows) pkAll_sound M) (g := .ofNat 6) knownSees
  exact pkOne_sound (gid := .ofNat 6) h.1 h.2 call hc
theorem told_ok (call : CallT) (hc : SoundCall Try.prog call) : SoundCall Try.prog (told call) :=
  pkK_sound _ (pkM_sound _ (pkFM_sound _ (pkCN_sound _ (pkFC_sound _ (pkFN_sound _ hc)))))
theorem call_sound : SoundCall Try.prog call := qevX_sound (Vm.drawn_ok follows) told_ok M
theorem rests (x : Int) (b : Bool) (r : Nat) (h : r < 3) : rest x b r = true := by
  match b, r, h with
  | false, 0, _ => exact wide0 x
  | false, 1, _ => exact wide1 x
  | false, 2, _ => exact wide2 x
  | true, 0, _ => exact deep0 x
  | true, 1, _ => exact deep1 x
  | true, 2, _ => exact deep2 x
  | _, _ + 3, h => omega
theorem all_at (x : Nat) (b : Bool) : says true (evF call M law [.int .u8 (.ofNat x), .bool b] .empty) = true := by
  have hm : x % 3 < 3 := Nat.mod_lt _ (by decide)
  have e1 : (Int.ofNat x).tmod 3 = .ofNat (x % 3) := rfl
  rw [evF_mk law_mk (by kernel_rfl), ← qexcode_eq, qseq_nor c0_seq (s0 _ _ _)]
  show says true (fin _ (qexcode c1 call M (f1 (.ofNat x) b) .empty)) = true
  rw [qseq_nor c1_seq (s1 _ _)]
  show says true (fin _ (qexcode c2 call M (f2 (.ofNat x) b) .empty)) = true
  rw [qseq_nor c2_seq (s2 _ _ _), e1]
  have e2 : wr .i64 (iadd 398 (wr .i64 (.ofNat (x % 3)))) = .ofNat (398 + x % 3) := by
    rw [wr_small (x % 3) (by omega)]
    exact wr_small (398 + x % 3) (by omega)
  rw [e2]
  exact rests (.ofNat x) b (x % 3) hm
end Go.Proofs.Ytjnejkganejdbaa.termGreat
