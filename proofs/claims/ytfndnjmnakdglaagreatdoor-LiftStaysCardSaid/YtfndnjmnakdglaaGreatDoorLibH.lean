/- The known cases. No condition. -/
import Derived.Test.YtfndnjmnakdglaaGreatDoorLibG
import Derived.Test.YtfndnjmnakdglaaGreatDoorVmW
import Derived.Test.YtfndnjmnakdglaaGreatDoorLibE
namespace Go.Proofs.YtfndnjmnakdglaaGreatDoor
open Go Go.Vm
set_option linter.unusedVariables false
set_option linter.unusedSectionVars false
set_option maxRecDepth 100000
section
variable [L : Lay] [Bare]
theorem seen_of1 {g : Vm.Id} {b : List AV → St → R} {args : List AV} {r : AV} (h : Sound1 g b) (hb : b args .empty = .ok r .empty) (hm : mt .empty true r r = true) : Has Tryz.prog g.val ∧ Seen Tryz.prog g.val args r :=
  let ⟨h1, h2⟩ := h args .empty r .empty hb
  ⟨h1, fun F w vals rel hrl => Calls.mono (h2 F w vals rel hrl) fun e w' ⟨E', v, q1, q2, q3⟩ => ⟨r, .empty, E', v, hm, q1, q2, q3⟩⟩
noncomputable def marksS : List UInt8 := [126, 33, 64, 36, 37, 94, 38, 42, 95, 45, 43, 61, 60, 62, 46, 63, 47]
noncomputable def natA (l : List Nat) : AV := .ts (cellsN l) l.length l.length false
theorem nat_seen (hL : L.tabs = tab10) {v : AV} {l : List Nat} {t : List UInt8} (hv : Nats .empty v l) (hl : l.length ≤ 100) (ht : Lib.decDigits (vh l) = t) (hm : mt .empty true (.str t) (.str t) = true) : Has Tryz.prog 51 ∧ Seen Tryz.prog 51 [v] (.str t) := by
  have ev : F.digits_Nat.val = 51 := by kernel_rfl
  have := seen_of1 (nat_sound1 hL) (by rw [nat_B_ok hv hl, ht]) hm
  rw [ev] at this; exact this
theorem small_seen (hL : L.tabs = tab10) {l : List Nat} {neg b : Bool} {n : Int} (hl : l.length ≤ 100) (h1 : smallV ⟨neg, l⟩ = n) (h2 : fitsB ⟨neg, l⟩ = b) (hm : mt .empty true (.tup [.int .i64 n, .bool b]) (.tup [.int .i64 n, .bool b]) = true) : Has Tryz.prog 170 ∧ Seen Tryz.prog 170 [.agg [.bool neg, natA l]] (.tup [.int .i64 n, .bool b]) := by
  haveI : Tel := T0
  have ev : F.whole_Small.val = 170 := by kernel_rfl
  have hz : RZ .empty (.bool neg) (natA l) ⟨neg, l⟩ := ⟨rfl, nats_ts l (by omega) l.length false⟩
  have := seen_of1 (small_sound1 hL) (by rw [small_B_ok hz (by show l.length ≤ 1000; omega), h1, h2]) hm
  rw [ev] at this; exact this
theorem compare_seen {l m : List UInt8} {n : Int} (h : Lib.compareBytes l m = n) : Has Tryz.prog 141 ∧ Seen Tryz.prog 141 [.str l, .str m] (.int .i64 n) := by
  have ev : F.strings_Compare.val = 141 := by kernel_rfl
  have := seen_of1 (args := [.str l, .str m]) (r := .int .i64 n) compare_sound (by show R.ok (.int .i64 (Lib.compareBytes l m)) _ = _; rw [h]) (by simp [Vm.mt, (keq_iff .i64 .i64).mpr rfl])
  rw [ev] at this; exact this
theorem index_seen {l : List UInt8} {c n : Int} (h : Lib.indexByte l c.toNat.toUInt8 = n) : Has Tryz.prog 233 ∧ Seen Tryz.prog 233 [.str l, .int .u8 c] (.int .i64 n) := by
  have ev : F.strings_IndexByte.val = 233 := by kernel_rfl
  have := seen_of1 (args := [.str l, .int .u8 c]) (r := .int .i64 n) index_sound (by show R.ok (.int .i64 (Lib.indexByte l c.toNat.toUInt8)) _ = _; rw [h]) (by simp [Vm.mt, (keq_iff .i64 .i64).mpr rfl])
  rw [ev] at this; exact this
noncomputable def tableK : Tab (List (List AV × AV)) :=
  (Vm.Id.ofNat 51).set [([natA [1]], .str [49]), ([natA [4]], .str [52]), ([.nils], .str [48])] (
  (Vm.Id.ofNat 170).set [([.agg [.bool true, natA [2]]], .tup [.int .i64 (-2), .bool true]), ([.agg [.bool true, natA [3]]], .tup [.int .i64 (-3), .bool true])] (
  (Vm.Id.ofNat 141).set [([.str [33, 48], .str [33, 49]], .int .i64 (-1)), ([.str [120], .str [33, 48]], .int .i64 1), ([.str [120], .str [33, 49]], .int .i64 1), ([.str [120], .str [33, 52]], .int .i64 1)] (
  (Vm.Id.ofNat 233).set [([.str marksS, .int .u8 33], .int .i64 1)] (.rep []))))
noncomputable def baseK : CallT := qevP (pkT tableK) code0 1000000
theorem known13 : sees baseK (.ofNat 13) ([], .bool true) = true := by kernel_rfl
theorem known37 : sees baseK (.ofNat 37) ([], .bool true) = true := by kernel_rfl
end
end Go.Proofs.YtfndnjmnakdglaaGreatDoor
namespace Go.Proofs.YtfndnjmnakdglaaGreatDoor
open Go Go.Vm
set_option linter.unusedVariables false
noncomputable instance told2 : Tel := ⟨Nat_B, Small_B, true_B, true_B⟩
theorem told_ok {g : Vm.Id} {b : List AV → St → R} {a : List AV} {s s' : St} {r : AV} (h : g.get BT = b) (hb : b a s = .ok r s') : CA g a s = .ok r s' := cc_ok.mpr (.base _ _ _ _ _ (by rw [h]; exact hb))
theorem nat_call (s : St) (v : AV) (l : List Nat) (hl : l.length ≤ 100) (hv : Nats s v l) : CA F.digits_Nat [v] s = .ok (.str (Lib.decDigits (vh l))) s := told_ok told_digits_Nat (nat_B_ok hv hl)
theorem known_call (s : St) : CA F.law13_known [] s = .ok (.bool true) s := told_ok told_law13_known rfl
theorem settle_ex (s : St) (r : AV) (s0 : St) (hr : Ov s.n.val r) : ∃ s', ((s' = s ∧ Old s s0) ∨ s' = s0) ∧ Settled s r s0 r s' := by
  by_cases h : Old s s0
  · exact ⟨s, .inl ⟨rfl, h⟩, .inl ⟨h, hr s0, rfl⟩⟩
  · exact ⟨s0, .inr rfl, .inr ⟨.inl h, rfl, rfl⟩⟩
theorem fn_st {g : Vm.Id} {nt : Nat} {res : List Res} {body : CC} {args : List AV} {s : St} {Q : AV → St → Prop} (hg : g.get (Vm.prog Go.Proofs.Tryz.prog) = .mk nt res body ∧ g.get BT = noB) (h : args.length ≤ nt)
    (hw : W CA body (fun f t => Rs (fun r0 s0 => Ov s.n.val r0 ∧ Q r0 s0) res f t) (fun _ _ _ => False) (fun f t => Rs (fun r0 s0 => Ov s.n.val r0 ∧ Q r0 s0) res f t) (frame0 args) (Sx s [])) : ∃ r s' s0, CA g args s = .ok r s' ∧ Q r s0 ∧ ((s' = s ∧ Old s s0) ∨ s' = s0) := by
  obtain ⟨N, hN⟩ := WF_S h hw
  cases he : evF CA N (.mk nt res body) args s with
  | no => rw [he] at hN; exact hN.elim
  | ok r0 s0 =>
    rw [he] at hN
    obtain ⟨h1, hQ⟩ : Ov s.n.val r0 ∧ Q r0 s0 := hN
    obtain ⟨s', h2, h3⟩ := settle_ex s r0 s0 h1
    exact ⟨r0, s', s0, cc_intro (by rw [hg.1]; exact he) h3 hg.2, hQ, h2⟩
end Go.Proofs.YtfndnjmnakdglaaGreatDoor
namespace Go.Proofs.YtfndnjmnakdglaaGreatDoor
open Go Go.Vm
set_option linter.unusedVariables false
set_option linter.unusedSectionVars false
set_option maxRecDepth 100000
section
variable [L : Lay] [Bare]
theorem mt_str (l : List UInt8) : mt .empty true (.str l) (.str l) = true := by simp [Vm.mt]
theorem mt_small (n : Int) (b : Bool) : mt .empty true (.tup [.int .i64 n, .bool b]) (.tup [.int .i64 n, .bool b]) = true := by simp [Vm.mt, Vm.mt.mts, (keq_iff .i64 .i64).mpr rfl]
theorem tableK_ok (hL : L.tabs = tab10) (g : Vm.Id) (e : List AV × AV) (h : e ∈ g.get tableK) : Has Tryz.prog g.val ∧ Seen Tryz.prog g.val e.1 e.2 := by
  unfold tableK at h
  simp only [Id.get_set, Id.get_rep] at h
  split at h
  · rename_i hg
    subst hg
    simp only [List.mem_cons, List.mem_nil_iff, or_false] at h
    rcases h with rfl | rfl | rfl
    · exact nat_seen hL (nats_ts [1] (by simp) 1 false) (by simp) (by decide +kernel) (mt_str _)
    · exact nat_seen hL (nats_ts [4] (by simp) 1 false) (by simp) (by decide +kernel) (mt_str _)
    · exact nat_seen hL (nats_nil _) (by simp) (by decide +kernel) (mt_str _)
  split at h
  · rename_i hg
    subst hg
    simp only [List.mem_cons, List.mem_nil_iff, or_false] at h
    rcases h with rfl | rfl
    · exact small_seen hL (by simp) (by decide +kernel) (by decide +kernel) (mt_small _ _)
    · exact small_seen hL (by simp) (by decide +kernel) (by decide +kernel) (mt_small _ _)
  split at h
  · rename_i hg
    subst hg
    simp only [List.mem_cons, List.mem_nil_iff, or_false] at h
    rcases h with rfl | rfl | rfl | rfl
    · exact compare_seen (by decide +kernel)
    · exact compare_seen (by decide +kernel)
    · exact compare_seen (by decide +kernel)
    · exact compare_seen (by decide +kernel)
  split at h
  · rename_i hg
    subst hg
    simp only [List.mem_cons, List.mem_nil_iff, or_false] at h
    subst h
    exact index_seen (by decide +kernel)
  · cases h
theorem hdr : ∀ call, SoundCall Tryz.prog call → DrawnOk Tryz.prog call := Vm.drawn_ok follows
theorem baseK_sound (hL : L.tabs = tab10) : SoundCall Tryz.prog baseK := qevP_sound hdr (pkT_sound (tableK_ok hL)) _
theorem true_sound (g : Vm.Id) (h : Has Tryz.prog g.val ∧ Seen Tryz.prog g.val [] (.bool true)) : Sound1 g true_B := by
  intro args s r s' hb
  have hs := pkOne_sound (gid := g) h.1 h.2 (fun _ _ _ => .no) (fun g a s r s' h => R.noConfusion h)
  refine hs g args s r s' ?_
  unfold true_B at hb
  split at hb
  · obtain ⟨rfl, rfl⟩ := ok_inj hb
    have e : pkBy g (fun _ _ => 0) 0 (fun _ => []) (fun _ => .bool true) g [] s = some ([], .bool true) := by
      unfold pkBy
      simp [Vm.mt.mts]
      rfl
    unfold picks
    rw [e]
  · exact R.noConfusion hb
theorem law13_sound (hL : L.tabs = tab10) : Sound1 F.law13_known true_B := true_sound _ (by
  have := seen_of (baseK_sound hL) known13
  have ev : F.law13_known = .ofNat 13 := rfl
  rw [ev]; exact this)
theorem law14_sound (hL : L.tabs = tab10) : Sound1 F.law14_known true_B := true_sound _ (by
  have := seen_of (baseK_sound hL) known37
  have ev : F.law14_known = .ofNat 37 := rfl
  rw [ev]; exact this)
theorem ca2_sound (hL : L.tabs = tab10) : SoundCall Tryz.prog CA := ca_sound hL (nat_sound1 hL) (small_sound1 hL) (law13_sound hL) (law14_sound hL)
end
end Go.Proofs.YtfndnjmnakdglaaGreatDoor
namespace Go.Proofs.YtfndnjmnakdglaaGreatDoor
open Go Go.Vm
noncomputable instance lay0 : Lay := ⟨tab10, []⟩
instance bare0 : Bare := ⟨rfl⟩
theorem ca3_sound : SoundCall Tryz.prog CA := ca2_sound rfl
theorem bounds_u8 {x : Int} (h : (Lit.int .u8 x).wf = true) : 0 ≤ x ∧ x ≤ 255 := by
  have q2 : IntKind.u8.min = 0 := rfl
  have q3 : IntKind.u8.max = 255 := rfl
  simp [Lit.wf] at h
  omega
end Go.Proofs.YtfndnjmnakdglaaGreatDoor
