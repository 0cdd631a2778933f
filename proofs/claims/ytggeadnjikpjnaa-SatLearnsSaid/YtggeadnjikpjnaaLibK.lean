/- What is told of the library, and of the known cases, comes so. No condition. -/
import Derived.Shelf.SlSortCmp.Whole1
import Derived.Sort.Grow
import Derived.WalkKit
import Derived.KernelRfl
import Derived.Test.YtggeadnjikpjnaaProg
import Derived.Test.YtggeadnjikpjnaaLibA
import Derived.Test.YtggeadnjikpjnaaVmW
import Derived.Test.YtggeadnjikpjnaaVmS
import Derived.Shelf.SlSortCmp.NoneTotal
namespace Go.Proofs.Ytggeadnjikpjnaa
open Go.Shelf Go.RowKit Go.Lib Go.Sort
def renSort : Ren where
  f := fun | 6 => 22 | 15 => 31 | 14 => 30 | 28 => 45 | 29 => 46 | 20 => 37 | 21 => 38 | 22 => 39 | 23 => 40 | 24 => 41 | 25 => 42 | 26 => 43 | 27 => 44 | 46 => 48 | 47 => 49 | 48 => 50 | 49 => 51 | 50 => 52 | 57 => 53 | n => n
  t := fun | 22 => 31 | 24 => 3 | 25 => 53 | 3 => 3 | 39 => 63 | 0 => 0 | 53 => 79 | 55 => 81 | 4 => 4 | 46 => 73 | 45 => 72 | 50 => 59 | 5 => 5 | 9 => 9 | 66 => 83 | 70 => 87 | 76 => 89 | 77 => 90 | n => n
  g := fun n => n
theorem laysSort : SlLaysF.n6 Try.prog renSort where
  mixed := by kernel_rfl
  f6 := ⟨"slices.SortFunc[[]int,int]", of_decide_eq_true (by kernel_rfl), Try.func22.trans (congrArg some (by kernel_rfl))⟩
  f14 := ⟨"slices.pdqsortCmpFunc[int]", of_decide_eq_true (by kernel_rfl), Try.func30.trans (congrArg some (by kernel_rfl))⟩
  f15 := Try.func31.trans (congrArg some (by kernel_rfl))
  f20 := ⟨"slices.insertionSortCmpFunc[int]", of_decide_eq_true (by kernel_rfl), Try.func37.trans (congrArg some (by kernel_rfl))⟩
  f21 := ⟨"slices.heapSortCmpFunc[int]", of_decide_eq_true (by kernel_rfl), Try.func38.trans (congrArg some (by kernel_rfl))⟩
  f22 := ⟨"slices.breakPatternsCmpFunc[int]", of_decide_eq_true (by kernel_rfl), Try.func39.trans (congrArg some (by kernel_rfl))⟩
  f23 := ⟨"slices.choosePivotCmpFunc[int]", of_decide_eq_true (by kernel_rfl), Try.func40.trans (congrArg some (by kernel_rfl))⟩
  f24 := ⟨"slices.reverseRangeCmpFunc[int]", of_decide_eq_true (by kernel_rfl), Try.func41.trans (congrArg some (by kernel_rfl))⟩
  f25 := ⟨"slices.partialInsertionSortCmpFunc[int]", of_decide_eq_true (by kernel_rfl), Try.func42.trans (congrArg some (by kernel_rfl))⟩
  f26 := ⟨"slices.partitionEqualCmpFunc[int]", of_decide_eq_true (by kernel_rfl), Try.func43.trans (congrArg some (by kernel_rfl))⟩
  f27 := ⟨"slices.partitionCmpFunc[int]", of_decide_eq_true (by kernel_rfl), Try.func44.trans (congrArg some (by kernel_rfl))⟩
  f28 := Try.func45.trans (congrArg some (by kernel_rfl))
  f29 := Try.func46.trans (congrArg some (by kernel_rfl))
  f46 := ⟨"slices.siftDownCmpFunc[int]", of_decide_eq_true (by kernel_rfl), Try.func48.trans (congrArg some (by kernel_rfl))⟩
  f47 := Try.func49.trans (congrArg some (by kernel_rfl))
  f48 := Try.func50.trans (congrArg some (by kernel_rfl))
  f49 := ⟨"slices.medianAdjacentCmpFunc[int]", of_decide_eq_true (by kernel_rfl), Try.func51.trans (congrArg some (by kernel_rfl))⟩
  f50 := ⟨"slices.medianCmpFunc[int]", of_decide_eq_true (by kernel_rfl), Try.func52.trans (congrArg some (by kernel_rfl))⟩
  f57 := ⟨"slices.order2CmpFunc[int]", of_decide_eq_true (by kernel_rfl), Try.func53.trans (congrArg some (by kernel_rfl))⟩
  t0 := Try.underlying0
  a0 := Try.isAgg0
  z0 := Try.sizeOf0
  v0 := Try.zeroValue0
  t3 := Try.underlying3
  a3 := Try.isAgg3
  z3 := Try.sizeOf3
  v3 := Try.zeroValue3
  t4 := Try.underlying4
  a4 := Try.isAgg4
  z4 := Try.sizeOf4
  v4 := Try.zeroValue4
  t5 := Try.underlying5
  a5 := Try.isAgg5
  z5 := Try.sizeOf5
  v5 := Try.zeroValue5
  t9 := Try.underlying9
  a9 := Try.isAgg9
  z9 := Try.sizeOf9
  v9 := Try.zeroValue9
  t22 := Try.underlying31
  a22 := Try.isAgg31
  z22 := Try.sizeOf31
  v22 := Try.zeroValue31
  a24 := Try.isAgg3
  z24 := Try.sizeOf3
  t25 := Try.underlying53
  a25 := Try.isAgg53
  z25 := Try.sizeOf53
  v25 := Try.zeroValue53
  t39 := Try.underlying63
  a39 := Try.isAgg63
  z39 := Try.sizeOf63
  v39 := Try.zeroValue63
  t45 := Try.underlying72
  a45 := Try.isAgg72
  z45 := Try.sizeOf72
  v45 := Try.zeroValue72
  t46 := Try.underlying73
  a46 := Try.isAgg73
  z46 := Try.sizeOf73
  v46 := Try.zeroValue73
  t50 := Try.underlying59
  a50 := Try.isAgg59
  z50 := Try.sizeOf59
  v50 := Try.zeroValue59
  t53 := Try.underlying79
  a53 := Try.isAgg79
  z53 := Try.sizeOf79
  v53 := Try.zeroValue79
  t55 := Try.underlying81
  a55 := Try.isAgg81
  z55 := Try.sizeOf81
  v55 := Try.zeroValue81
  t66 := Try.underlying83
  a66 := Try.isAgg83
  z66 := Try.sizeOf83
  v66 := Try.zeroValue83
  t70 := Try.underlying87
  a70 := Try.isAgg87
  z70 := Try.sizeOf87
  v70 := Try.zeroValue87
  t76 := Try.underlying89
  a76 := Try.isAgg89
  z76 := Try.sizeOf89
  v76 := Try.zeroValue89
  t77 := Try.underlying90
  a77 := Try.isAgg90
  z77 := Try.sizeOf90
  v77 := Try.zeroValue90
/-- Numbers that are no great ones. -/
structure Sma where
  v : Int
  h : v.natAbs < 4611686018427387904
instance : Inhabited Sma := ⟨⟨0, by decide⟩⟩
def smaV (a : Sma) : Value := .int .i64 a.v
def smaCmp (a b : Sma) : Int := (a.v.natAbs : Int) - (b.v.natAbs : Int)
theorem sma_lt (a b : Sma) : ltOf smaCmp a b = decide (a.v.natAbs < b.v.natAbs) := by
  unfold ltOf smaCmp
  rw [decide_eq_decide]; omega
theorem sma_swo : SWO (ltOf smaCmp) where
  irrefl x := by rw [sma_lt]; simp
  trans x y z h1 h2 := by rw [sma_lt] at *; simp at *; omega
  ntrans x y z h1 h2 := by rw [sma_lt] at *; simp at *; omega
theorem closure23 (x y : Int) (hx : x.natAbs < 4611686018427387904) (hy : y.natAbs < 4611686018427387904) (W : World) : Calls Try.prog 23 #[.int .i64 x, .int .i64 y] W fun e w' => e = .returned (.int .i64 ((x.natAbs : Int) - (y.natAbs : Int))) ∧ w' = W := by
  have e1 : IntKind.wrap .i64 (-x) = -x := by simp only [IntKind.wrap, IntKind.bits, IntKind.signed]; simp; omega
  have e2 : IntKind.wrap .i64 (-y) = -y := by simp only [IntKind.wrap, IntKind.bits, IntKind.signed]; simp; omega
  have e3 : max x (-x) = ((x.natAbs : Nat) : Int) := by omega
  have e4 : max y (-y) = ((y.natAbs : Nat) : Int) := by omega
  have e5 : IntKind.wrap .i64 ((x.natAbs : Int) - (y.natAbs : Int)) = (x.natAbs : Int) - (y.natAbs : Int) := by simp only [IntKind.wrap, IntKind.bits, IntKind.signed]; simp; omega
  go_enter Try.func23, Try.ntmps23
  go_wp2
  go_ret
  exact ⟨rfl, rfl⟩
theorem sma_lays (blk off size : Nat) (w : World) : CmpLays1 Try.prog 23 #[] smaV smaCmp blk off size w := by
  intro m os dk _ x y
  exact (closure23 x.v y.v x.h y.h _).mono fun e w' ⟨h1, h2⟩ => ⟨h1, 0, #[], by rw [h2, grow_empty]; rfl⟩
end Go.Proofs.Ytggeadnjikpjnaa
namespace Go.Proofs.Ytggeadnjikpjnaa
open Go Go.Vm
set_option linter.unusedVariables false
noncomputable instance : Lay := ⟨[], []⟩
instance : Bare := ⟨rfl⟩
theorem abs_eq {xs : List Int} (h : (xs.map Int.natAbs).Nodup) {a b : Int} (ha : a ∈ xs) (hb : b ∈ xs) (e : a.natAbs = b.natAbs) : a = b := by
  induction xs with
  | nil => cases ha
  | cons g es ih =>
    rw [List.map_cons, List.nodup_cons] at h
    rcases List.mem_cons.mp ha with ha' | ha'
    · rcases List.mem_cons.mp hb with hb' | hb'
      · rw [ha', hb']
      · exact absurd (by rw [← ha', e]; exact List.mem_map_of_mem hb') h.1
    · rcases List.mem_cons.mp hb with hb' | hb'
      · exact absurd (by rw [← hb', ← e]; exact List.mem_map_of_mem ha') h.1
      · exact ih h.2 ha' hb'
theorem sorted_uniq {xs l : List Int} (hu : (xs.map Int.natAbs).Nodup) (hp : l.Perm xs) (hs : l.Pairwise fun a b => a.natAbs ≤ b.natAbs) : l = sortI xs := by
  have h1 : (sortI xs).Pairwise fun a b => a.natAbs ≤ b.natAbs := (List.pairwise_mergeSort (le := fun a b : Int => decide (a.natAbs ≤ b.natAbs)) (by intro a b c; simp; omega) (by intro a b; simp; omega) xs).imp fun h => by simpa using h
  have h2 : (sortI xs).Perm xs := List.mergeSort_perm xs _
  exact List.Perm.eq_of_pairwise (le := fun a b : Int => a.natAbs ≤ b.natAbs) (fun a b ha hb h1 h3 => abs_eq hu (hp.mem_iff.mp ha) (h2.mem_iff.mp hb) (by omega)) hs h1 (hp.trans h2.symm)
theorem sma_of : ∀ xs : List Int, (∀ x ∈ xs, x.natAbs < 4611686018427387904) → ∃ D : List Sma, D.map Sma.v = xs
  | [], _ => ⟨[], rfl⟩
  | x :: xs, h => by
    obtain ⟨D, hD⟩ := sma_of xs fun y hy => h y (List.mem_cons_of_mem _ hy)
    exact ⟨⟨x, h x List.mem_cons_self⟩ :: D, by rw [List.map_cons, hD]⟩
theorem rl_ints {E : Env} {w : World} : ∀ (xs : List Int) (us : List Value), RL E w (xs.map (.int .i64)) us → us = xs.map (Value.int .i64)
  | [], us, h => List.eq_nil_of_length_eq_zero h.len
  | x :: xs, us, h => by
    obtain ⟨u, vs, rfl, k1, h2⟩ := RL.cons_inv (show RL E w (.int .i64 x :: xs.map (.int .i64)) us from h)
    rw [rv_int k1, rl_ints xs vs h2]; rfl
theorem ints_rl {E : Env} {w : World} : ∀ (xs : List Int), RL E w (xs.map (.int .i64)) (xs.map (Value.int .i64))
  | [] => RL.nil _ _
  | x :: xs => RL.cons (.int _ _) (ints_rl xs)
theorem enters23 : ∀ args w, (callFunc 23 args).run Try.prog w = .ok (.enter 23 args) w := enters_of Try.func23 (by kernel_rfl) rfl
theorem sort_calls {s : St} {E : Env} {w : World} (rel : Rel s E w) {b : Vm.Id} {cap : Nat} {xs : List Int} (ho : s.obj b = .cells (xs.map (.int .i64))) (hu : (xs.map Int.natAbs).Nodup) (hsm : ∀ x ∈ xs, x.natAbs < 4611686018427387904) (hlen : xs.length < 4611686018427387904) :
    Calls Try.prog 22 #[.slice (some ⟨(E.φ b).block, (E.φ b).off, none⟩) xs.length cap, .func (.func 23) #[] #[]] w fun e w' => e = .returned (.tuple #[]) ∧ Went s E w (s.put b (.cells ((sortI xs).map (.int .i64)))) E w' := by
  obtain ⟨c, ty, us, H⟩ := rel.h.cells b _ ho
  have hus := rl_ints xs us H.row
  obtain ⟨D, hD⟩ := sma_of xs hsm
  have hDl : D.toArray.size = xs.length := by rw [List.size_toArray, ← hD, List.length_map]
  have hDL : D.length = xs.length := by rw [← hD, List.length_map]
  have hat : ∀ j (hj : j < xs.length), c[(E.φ b).off + j]? = some (smaV (D[j]'(by omega))) := by
    intro j hj
    refine H.at_ j _ ?_
    have e : us = D.map smaV := by rw [hus, ← hD, List.map_map]; rfl
    rw [e, List.getElem?_map, List.getElem?_eq_getElem (by omega)]; rfl
  have hH : Go.Sort.Holds smaV w (E.φ b).block (E.φ b).off D.toArray := by
    intro j hj
    rw [hDl] at hj
    have h1 := hat j hj
    refine ⟨?_, ?_⟩
    · unfold World.cell?
      rw [H.heap]
      show c[(E.φ b).off + j]? = _
      rw [h1, getElem!_pos _ j (by rw [hDl]; exact hj)]; rfl
    · unfold World.frozen?
      rw [H.heap]
      simp
  have hblk : (E.φ b).block < w.heap.size := (Array.getElem?_eq_some_iff.mp H.heap).1
  have hc := Go.Proofs.Any.slices_SortFunc laysSort smaV (fun _ => rfl) smaCmp sma_swo 23 #[] (E.φ b).block (E.φ b).off cap D.toArray w enters23 (sma_lays _ _ _ _) hH hblk (by rw [hDl]; exact hlen)
  rw [hDl] at hc
  change Calls Try.prog 22 _ _ _ at hc
  refine hc.mono ?_
  rintro e w' ⟨rfl, d', m, os, hp, hs, rfl⟩
  refine ⟨rfl, ?_⟩
  have hsz : d'.size = xs.length := by rw [hp.1, hDl]
  have hperm : d'.toList.Perm D := by
    have h1 := hp.2.2
    have e1 : (d'.extract 0 xs.length).toList = d'.toList := by rw [← hsz]; simp
    have e2 : (D.toArray.extract 0 xs.length).toList = D := by rw [← hDl]; simp
    rw [e1, e2] at h1
    exact h1
  have hse : d'.toList.map Sma.v = sortI xs := by
    refine sorted_uniq hu (by rw [← hD]; exact hperm.map _) ?_
    rw [List.pairwise_map, List.pairwise_iff_getElem]
    intro i j hi hj hij
    rw [Array.length_toList] at hi hj
    have h1 := hs i j (by omega) hij (by omega)
    rw [sma_lt, getElem!_pos d' i hi, getElem!_pos d' j hj] at h1
    simp only [Array.getElem_toList]
    have := of_decide_eq_false h1
    omega
  have hus' : d'.toList.map smaV = (sortI xs).map (Value.int .i64) := by rw [← hse, List.map_map]; rfl
  have hput : (Go.Proofs.sortWorld smaV w (E.φ b).block (E.φ b).off m d' os).heap = (w.heap.modify (E.φ b).block (Go.Sort.onCells (Go.Sort.putCells smaV (E.φ b).off d'))) ++ os := rfl
  refine row_turned (c := c) (c' := Go.Sort.putCells smaV (E.φ b).off d' c) (e := ty) (us' := (sortI xs).map (Value.int .i64)) rel ho H.heap ?_ (by simp [Go.Sort.putCells]) (fun k hk hne => ?_) ?_ rfl rfl rfl (ints_rl _) ?_ ?_
  · rw [hput, Array.getElem?_append_left (by simpa using hblk), Array.getElem?_modify, if_pos rfl, H.heap]; rfl
  · rw [hput, Array.getElem?_append_left (by simpa using hk), Array.getElem?_modify, if_neg (fun h => hne h.symm)]
  · rw [hput]; simp
  · intro a ha
    obtain ⟨z, _, rfl⟩ := List.mem_map.mp ha
    rfl
  · intro j u hu
    rw [← hus'] at hu
    have hj : j < d'.size := by
      have := (List.getElem?_eq_some_iff.mp hu).1
      rw [List.length_map, Array.length_toList] at this; exact this
    have hcs : (E.φ b).off + j < c.size := (Array.getElem?_eq_some_iff.mp (hat j (by omega))).1
    unfold Go.Sort.putCells
    rw [Array.getElem?_mapIdx, Array.getElem?_eq_getElem hcs]
    simp only [Option.map_some]
    rw [if_pos ⟨by omega, by omega⟩, Nat.add_sub_cancel_left, getElem!_pos _ j hj]
    rw [List.getElem?_map, List.getElem?_eq_getElem (by rw [Array.length_toList]; exact hj)] at hu
    exact hu
end Go.Proofs.Ytggeadnjikpjnaa
namespace Go.Proofs.Ytggeadnjikpjnaa
open Go Go.Vm
set_option linter.unusedVariables false
set_option maxRecDepth 100000
theorem follows : Try.prog.follows .mixedOrders = true := by kernel_rfl
noncomputable def code : Tab CF := prog Try.prog
noncomputable def base0 : CallT := qev code 1000000
theorem base0_sound : SoundCall Try.prog base0 := by
  unfold base0 code
  rw [qev_eq]
  exact Vm.sound follows 1000000
theorem knownSees : sees base0 (.ofNat 9) ([], .bool true) = true := by kernel_rfl
noncomputable def pkK : Vm.Id → List AV → St → Option (List AV × AV) := pkBy (.ofNat 9) (fun _ _ => 0) 0 (fun _ => []) fun _ => .bool true
theorem pkK_sound (call : CallT) (hc : SoundCall Try.prog call) : SoundCall Try.prog (picks pkK call) := by
  have h := seen_of base0_sound (g := .ofNat 9) knownSees
  exact pkOne_sound (gid := .ofNat 9) h.1 h.2 call hc
theorem pkK_at (s : St) : picks pkK (fun _ _ _ => .no) (.ofNat 9) [] s = .ok (.bool true) s := by
  have e : pkK (.ofNat 9) [] s = some ([], .bool true) := by
    unfold pkK pkBy
    rw [decide_eq_true rfl]; rfl
  unfold picks
  rw [e]
theorem no_sound (P : Program) : SoundCall P fun _ _ _ => .no := fun g args s r s' h => R.noConfusion h
theorem went_refl {s : St} {E : Env} {w : World} (h : Rel s E w) : Went s E w s E w := ⟨h, Nat.le_refl _, .refl⟩
theorem true_B_ok {args : List AV} {s s' : St} {r : AV} (h : true_B args s = .ok r s') : args = [] ∧ r = .bool true ∧ s' = s := by
  cases args with
  | nil => obtain ⟨h1, h2⟩ := ok_inj h; exact ⟨rfl, h1.symm, h2.symm⟩
  | cons a l => exact R.noConfusion h
/-- What is told of one function comes so. -/
def Sound1 (g : Vm.Id) (b : List AV → St → R) : Prop := ∀ (args : List AV) (s : St) (r : AV) (s' : St), b args s = .ok r s' → (∃ fn, Try.prog.funcs[g.val]? = some fn ∧ fn.body.isNone = false ∧ fn.name ≠ "runtime.NumGoroutine") ∧
  ∀ (E : Env) (w : World) (vals : List Value), Rel s E w → RL E w args vals → Calls Try.prog g.val vals.toArray w fun e w' => ∃ E' v, e = .returned v ∧ RV E' w' r v ∧ Went s E w s' E' w'
theorem base_rep : SoundCall Try.prog fun g a s => g.get (Tab.rep noB : Base) a s := by
  intro g args s r s' h
  simp only [Id.get_rep] at h
  exact R.noConfusion h
theorem base_set {g0 : Vm.Id} {b0 : List AV → St → R} {B : Base} (h0 : Sound1 g0 b0) (hB : SoundCall Try.prog fun g a s => g.get B a s) : SoundCall Try.prog fun g a s => g.get (g0.set b0 B) a s := by
  intro g args s r s' h
  by_cases hg : g = g0
  · subst hg
    simp only [Id.get_set, if_true] at h
    exact h0 args s r s' h
  · simp only [Id.get_set, if_neg hg] at h
    exact hB g args s r s' h
theorem known_sound : Sound1 F.law18_known true_B := by
  intro args s r s' h
  have eg : F.law18_known = .ofNat 9 := by kernel_rfl
  have hp := fun s => pkK_sound _ (no_sound _) (.ofNat 9) [] s _ _ (pkK_at s)
  rw [← eg] at hp
  obtain ⟨rfl, rfl, rfl⟩ := true_B_ok h
  exact hp _
theorem clone_sound : Sound1 F.slices_Clone_int_int Clone_B := by
  intro args s r s' h
  obtain ⟨N, hN⟩ := rawB_ok h
  exact evF_sound (P := Try.prog) (no_sound _) (Vm.drawn_ok follows) N (g := F.slices_Clone_int_int) hN
theorem sort_none (p : Option Addr) (cap : Nat) (fv : Value) (w : World) : Calls Try.prog 22 #[.slice p 0 cap, fv] w fun e w' => e = .returned (.tuple #[]) ∧ w' = w := Go.Proofs.AnyF.slices_SortFunc_none { laysSort with } p cap fv w
theorem sort_sound : Sound1 F.slices_SortFunc_int_int Sort_B := by
  intro args s r s' h
  have ev : F.slices_SortFunc_int_int.val = 22 := by kernel_rfl
  have e23 : (Vm.fn 23).val = 23 := by kernel_rfl
  rcases sortB_ok h with ⟨b, es, ht, rfl, rfl⟩ | ⟨rfl, rfl, rfl⟩
  · refine ⟨⟨Try.f22, by rw [ev]; exact Try.func22, by kernel_rfl, by decide⟩, fun E w vals rel hrl => ?_⟩
    obtain ⟨ex, rfl⟩ := ht.args
    obtain ⟨u1, vs1, rfl, k1, hrl⟩ := hrl.cons_inv
    obtain ⟨u2, vs2, rfl, k2, hrl⟩ := hrl.cons_inv
    have e3 : vs2 = [] := List.eq_nil_of_length_eq_zero hrl.len
    subst e3
    cases k1 with | sl _ _ _ _ cap' _ hD hl hc hx hs =>
    cases k2 with | fn _ _ _ us vs q1 q2 q3 q4 =>
    have e4 : us = [] := List.eq_nil_of_length_eq_zero q1
    have e5 : vs = [] := List.eq_nil_of_length_eq_zero q3
    subst e4; subst e5
    rw [ev]
    refine Calls.mono (by simpa [e23] using sort_calls rel (cap := cap') ht.row ht.uniq ht.small ht.len) ?_
    rintro e w' ⟨rfl, hw⟩
    exact ⟨E, _, rfl, .tup [] [] rfl (by simp), hw⟩
  · refine ⟨⟨Try.f22, by rw [ev]; exact Try.func22, by kernel_rfl, by decide⟩, fun E w vals rel hrl => ?_⟩
    obtain ⟨u1, vs1, rfl, k1, hrl⟩ := hrl.cons_inv
    obtain ⟨u2, vs2, rfl, k2, hrl⟩ := hrl.cons_inv
    have e3 : vs2 = [] := List.eq_nil_of_length_eq_zero hrl.len
    subst e3
    cases k1
    rw [ev]
    refine Calls.mono (sort_none none 0 u2 w) ?_
    rintro e w' ⟨rfl, rfl⟩
    exact ⟨E, _, rfl, .tup [] [] rfl (by simp), went_refl rel⟩
theorem bt_sound : SoundCall Try.prog fun g a s => g.get BT a s := base_set known_sound (base_set sort_sound (base_set clone_sound base_rep))
theorem ca_sound : SoundCall Try.prog CA := cc_sound (Vm.drawn_ok follows) bt_sound
end Go.Proofs.Ytggeadnjikpjnaa
