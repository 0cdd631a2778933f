/- The names in terms, sorted. No condition. -/
import Derived.Shelf.SlSortCmp.WholeK
import Derived.Shelf.Small.Strs
import Derived.Sort.Grow
import Derived.WalkKit
import Derived.KernelRfl
import Derived.Test.YtjnejkganejdbaaProg
import Derived.Test.YtjnejkganejdbaaLibN
import Derived.Test.YtjnejkganejdbaaLibB
import Derived.Test.YtjnejkganejdbaaVmW
import Derived.Test.YtjnejkganejdbaaLibK
import Derived.Shelf.SlSortCmp.NoneTotal
import Derived.Test.YtjnejkganejdbaaLibA
import Derived.Test.YtjnejkganejdbaaLibG
namespace Go.Proofs.Ytjnejkganejdbaa
open Go.Shelf Go.RowKit Go.Lib Go.Sort
def renSort : Ren where
  f := fun | 6 => 47 | 15 => 68 | 14 => 67 | 28 => 89 | 29 => 90 | 20 => 81 | 21 => 82 | 22 => 83 | 23 => 84 | 24 => 85 | 25 => 86 | 26 => 87 | 27 => 88 | 46 => 97 | 47 => 98 | 48 => 99 | 49 => 100 | 50 => 101 | 57 => 106 | n => n
  t := fun | 22 => 46 | 24 => 44 | 25 => 77 | 3 => 3 | 39 => 98 | 0 => 0 | 53 => 61 | 55 => 66 | 4 => 4 | 46 => 107 | 45 => 106 | 50 => 111 | 5 => 5 | 9 => 9 | 66 => 119 | 70 => 123 | 76 => 126 | 77 => 127 | n => n
  g := fun n => n
theorem laysSort : SlLaysF0.n6 Try.prog renSort where
  mixed := by kernel_rfl
  f6 := ⟨"slices.SortFunc[[]mullion/api.Sig,mullion/api.Sig]", of_decide_eq_true (by kernel_rfl), Try.func47.trans (congrArg some (by kernel_rfl))⟩
  f14 := ⟨"slices.pdqsortCmpFunc[mullion/api.Sig]", of_decide_eq_true (by kernel_rfl), Try.func67.trans (congrArg some (by kernel_rfl))⟩
  f15 := Try.func68.trans (congrArg some (by kernel_rfl))
  f20 := ⟨"slices.insertionSortCmpFunc[mullion/api.Sig]", of_decide_eq_true (by kernel_rfl), Try.func81.trans (congrArg some (by kernel_rfl))⟩
  f21 := ⟨"slices.heapSortCmpFunc[mullion/api.Sig]", of_decide_eq_true (by kernel_rfl), Try.func82.trans (congrArg some (by kernel_rfl))⟩
  f22 := ⟨"slices.breakPatternsCmpFunc[mullion/api.Sig]", of_decide_eq_true (by kernel_rfl), Try.func83.trans (congrArg some (by kernel_rfl))⟩
  f23 := ⟨"slices.choosePivotCmpFunc[mullion/api.Sig]", of_decide_eq_true (by kernel_rfl), Try.func84.trans (congrArg some (by kernel_rfl))⟩
  f24 := ⟨"slices.reverseRangeCmpFunc[mullion/api.Sig]", of_decide_eq_true (by kernel_rfl), Try.func85.trans (congrArg some (by kernel_rfl))⟩
  f25 := ⟨"slices.partialInsertionSortCmpFunc[mullion/api.Sig]", of_decide_eq_true (by kernel_rfl), Try.func86.trans (congrArg some (by kernel_rfl))⟩
  f26 := ⟨"slices.partitionEqualCmpFunc[mullion/api.Sig]", of_decide_eq_true (by kernel_rfl), Try.func87.trans (congrArg some (by kernel_rfl))⟩
  f27 := ⟨"slices.partitionCmpFunc[mullion/api.Sig]", of_decide_eq_true (by kernel_rfl), Try.func88.trans (congrArg some (by kernel_rfl))⟩
  f28 := Try.func89.trans (congrArg some (by kernel_rfl))
  f29 := Try.func90.trans (congrArg some (by kernel_rfl))
  f46 := ⟨"slices.siftDownCmpFunc[mullion/api.Sig]", of_decide_eq_true (by kernel_rfl), Try.func97.trans (congrArg some (by kernel_rfl))⟩
  f47 := Try.func98.trans (congrArg some (by kernel_rfl))
  f48 := Try.func99.trans (congrArg some (by kernel_rfl))
  f49 := ⟨"slices.medianAdjacentCmpFunc[mullion/api.Sig]", of_decide_eq_true (by kernel_rfl), Try.func100.trans (congrArg some (by kernel_rfl))⟩
  f50 := ⟨"slices.medianCmpFunc[mullion/api.Sig]", of_decide_eq_true (by kernel_rfl), Try.func101.trans (congrArg some (by kernel_rfl))⟩
  f57 := ⟨"slices.order2CmpFunc[mullion/api.Sig]", of_decide_eq_true (by kernel_rfl), Try.func106.trans (congrArg some (by kernel_rfl))⟩
  t0 := Try.underlying0
  a0 := Try.isAgg0
  z0 := Try.sizeOf0
  v0 := Try.zeroValue0
  t3 := Try.underlying3
  a3 := Try.isAgg3
  z3 := Try.sizeOf3
  v3 := Try.zeroValue3
  t4 := Try.underlying4
  a4 := Try.isAgg4
  z4 := Try.sizeOf4
  v4 := Try.zeroValue4
  t5 := Try.underlying5
  a5 := Try.isAgg5
  z5 := Try.sizeOf5
  v5 := Try.zeroValue5
  t9 := Try.underlying9
  a9 := Try.isAgg9
  z9 := Try.sizeOf9
  v9 := Try.zeroValue9
  t22 := Try.underlying46
  a22 := Try.isAgg46
  z22 := Try.sizeOf46
  v22 := Try.zeroValue46
  t25 := Try.underlying77
  a25 := Try.isAgg77
  z25 := Try.sizeOf77
  v25 := Try.zeroValue77
  t39 := Try.underlying98
  a39 := Try.isAgg98
  z39 := Try.sizeOf98
  v39 := Try.zeroValue98
  t45 := Try.underlying106
  a45 := Try.isAgg106
  z45 := Try.sizeOf106
  v45 := Try.zeroValue106
  t46 := Try.underlying107
  a46 := Try.isAgg107
  z46 := Try.sizeOf107
  v46 := Try.zeroValue107
  t50 := Try.underlying111
  a50 := Try.isAgg111
  z50 := Try.sizeOf111
  v50 := Try.zeroValue111
  t53 := Try.underlying61
  a53 := Try.isAgg61
  z53 := Try.sizeOf61
  v53 := Try.zeroValue61
  t55 := Try.underlying66
  a55 := Try.isAgg66
  z55 := Try.sizeOf66
  v55 := Try.zeroValue66
  t66 := Try.underlying119
  a66 := Try.isAgg119
  z66 := Try.sizeOf119
  v66 := Try.zeroValue119
  t70 := Try.underlying123
  a70 := Try.isAgg123
  z70 := Try.sizeOf123
  v70 := Try.zeroValue123
  t76 := Try.underlying126
  a76 := Try.isAgg126
  z76 := Try.sizeOf126
  v76 := Try.zeroValue126
  t77 := Try.underlying127
  a77 := Try.isAgg127
  z77 := Try.sizeOf127
  v77 := Try.zeroValue127
def ren106 : Ren where
  f := fun | 106 => 49 | 213 => 69 | 265 => 91 | n => n
  t := fun | 9 => 9 | 3 => 3 | n => n
  g := fun n => n
theorem lays106 : Lays.n106 Try.prog ren106 where
  mixed := by kernel_rfl
  f106 := Try.func49.trans (congrArg some (by kernel_rfl))
  f213 := Try.func69.trans (congrArg some (by kernel_rfl))
  f265 := Try.func91.trans (congrArg some (by kernel_rfl))
  t3 := Try.underlying3
  a3 := Try.isAgg3
  z3 := Try.sizeOf3
  v3 := Try.zeroValue3
  t9 := Try.underlying9
  a9 := Try.isAgg9
  z9 := Try.sizeOf9
  v9 := Try.zeroValue9
set_option maxHeartbeats 1000000 in
theorem closure83 (x y : ByteArray) (u m u' m' : Value) (W : World) : Calls Try.prog 48 #[.agg #[.string x, u, m], .agg #[.string y, u', m']] W fun e w' => e = .returned (.int .i64 (Lib.compareBytes x.data.toList y.data.toList)) ∧ ∃ q os', w' = grow (W.drewN q) os' := by
  have hcon := fun W' => Any.strings_Compare lays106 x y W'
  change ∀ W', Calls Try.prog 49 _ _ _ at hcon
  generalize Lib.compareBytes x.data.toList y.data.toList = r at hcon ⊢
  go_enter Try.func48, Try.ntmps48
  go_wp2_with (go_at_call 49; refine (hcon _).mono ?_; rintro e w' ⟨rfl, rfl⟩)
  go_ret
  exact ⟨rfl, 0, _, by rw [alloc_eq_grow, alloc_eq_grow, grow_grow]; rfl⟩
/-- Three cells of which the first is a text. -/
def Tri : Type := {l : List Value // l.length = 3 ∧ (∀ v ∈ l, v.oneCell' = true) ∧ ∃ x, l[0]? = some (.string x)}
instance : Inhabited Tri := ⟨⟨[.string ByteArray.empty, .bool false, .bool false], rfl, by decide, _, rfl⟩⟩
def Tri.name (a : Tri) : List UInt8 := match a.1 with
  | .string x :: _ => x.data.toList
  | _ => []
theorem Tri.eq (a : Tri) : ∃ x u m, a.1 = [.string x, u, m] ∧ a.name = x.data.toList := by
  obtain ⟨l, h1, h2, x, h3⟩ := a
  match l, h1, h3 with
  | [c0, u, m], _, h3 =>
    have h4 : c0 = .string x := by simpa using h3
    subst h4
    exact ⟨x, u, m, rfl, rfl⟩
def triCmp (a b : Tri) : Int := Lib.compareBytes a.name b.name
theorem cmp_lt (a b : List UInt8) : Lib.compareBytes a b < 0 ↔ a < b := by
  induction a generalizing b with
  | nil => cases b with
    | nil => simp [Lib.compareBytes]
    | cons y b => simp [Lib.compareBytes]
  | cons x a ih => cases b with
    | nil => simp [Lib.compareBytes]
    | cons y b =>
      rw [List.cons_lt_cons_iff]
      simp only [Lib.compareBytes]
      by_cases h1 : x < y
      · simp [h1]
      · by_cases h2 : y < x
        · rw [if_neg h1, if_pos h2]
          have : ¬ x = y := by intro e; subst e; exact h1 h2
          simp [h1, this]
        · rw [if_neg h1, if_neg h2, ih]
          have : x = y := UInt8.le_antisymm (UInt8.not_lt.mp h2) (UInt8.not_lt.mp h1)
          simp [this]
theorem tri_lt (a b : Tri) : ltOf triCmp a b = decide (a.name < b.name) := by
  unfold ltOf triCmp
  rw [Bool.eq_iff_iff]; simp [cmp_lt]
theorem tri_swo : SWO (ltOf triCmp) where
  irrefl x := by rw [tri_lt]; simp [List.lt_irrefl]
  trans x y z h1 h2 := by rw [tri_lt] at *; simp at *; exact List.lt_trans h1 h2
  ntrans x y z h1 h2 := by
    rw [tri_lt] at *
    simp at *
    exact List.le_trans h2 h1
theorem tri_lays (blk off size : Nat) (w : World) : CmpLays Try.prog 48 #[] (fun a : Tri => a.1) 3 triCmp blk off size w := by
  intro m os dk _ x y
  obtain ⟨a, u, n, h1, h2⟩ := x.eq
  obtain ⟨b, u', n', h3, h4⟩ := y.eq
  show Calls _ _ #[.agg (x.1).toArray, .agg (y.1).toArray] _ _
  unfold triCmp
  rw [h1, h3, h2, h4]
  exact closure83 a b u n u' n' _
end Go.Proofs.Ytjnejkganejdbaa
namespace Go.Proofs.Ytjnejkganejdbaa
open Go Go.Vm
set_option linter.unusedVariables false
theorem sortG_perm (es : List Sg) : (sortG es).Perm es := List.mergeSort_perm _ _
theorem sortG_sorted (es : List Sg) : (sortG es).Pairwise fun a b => a.name ≤ b.name := by
  have h := List.pairwise_mergeSort (le := fun a b : Sg => decide (a.name ≤ b.name)) (fun a b c h1 h2 => by simp at *; exact List.le_trans h1 h2) (fun a b => by simp; exact List.le_total _ _) es
  exact h.imp fun h => by simpa using h
theorem uniq_eq {es : List Sg} (h : Uniq es) {a b : Sg} (ha : a ∈ es) (hb : b ∈ es) (e : a.name = b.name) : a = b := by
  induction es with
  | nil => cases ha
  | cons g es ih =>
    unfold Uniq at h
    rw [List.map_cons, List.nodup_cons] at h
    rcases List.mem_cons.mp ha with ha' | ha'
    · rcases List.mem_cons.mp hb with hb' | hb'
      · rw [ha', hb']
      · exact absurd (by rw [← ha', e]; exact List.mem_map_of_mem hb') h.1
    · rcases List.mem_cons.mp hb with hb' | hb'
      · exact absurd (by rw [← hb', ← e]; exact List.mem_map_of_mem ha') h.1
      · exact ih h.2 ha' hb'
theorem sorted_uniq {es l : List Sg} (hu : Uniq es) (hp : l.Perm es) (hs : l.Pairwise fun a b => a.name ≤ b.name) : l = sortG es :=
  List.Perm.eq_of_pairwise (le := fun a b : Sg => a.name ≤ b.name) (fun a b ha hb h1 h2 => uniq_eq hu (hp.mem_iff.mp ha) ((sortG_perm es).mem_iff.mp hb) (List.le_antisymm h1 h2)) hs (sortG_sorted es) (hp.trans (sortG_perm es).symm)
theorem perm_lift {α β : Type} {f : α → β} {l1 l2 : List β} (h : l1.Perm l2) : ∀ Z : List α, Z.map f = l2 → ∃ Z' : List α, Z'.Perm Z ∧ Z'.map f = l1 := by
  induction h with
  | nil => intro Z hz; exact ⟨Z, .refl _, hz⟩
  | cons x h ih =>
    intro Z hz
    match Z, hz with
    | z :: Z, hz =>
      simp only [List.map_cons, List.cons.injEq] at hz
      obtain ⟨Z', h1, h2⟩ := ih Z hz.2
      exact ⟨z :: Z', h1.cons z, by rw [List.map_cons, h2, hz.1]⟩
  | swap x y l =>
    intro Z hz
    match Z, hz with
    | a :: b :: Z, hz =>
      simp only [List.map_cons, List.cons.injEq] at hz
      exact ⟨b :: a :: Z, .swap _ _ _, by simp [hz.1, hz.2.1, hz.2.2]⟩
  | trans h1 h2 ih1 ih2 =>
    intro Z hz
    obtain ⟨Z1, p1, e1⟩ := ih2 Z hz
    obtain ⟨Z2, p2, e2⟩ := ih1 Z1 e1
    exact ⟨Z2, p2.trans p1, e2⟩
/-- A name, and what lies there for it. -/
def Fits2 (E : Env) (w : World) (p : Sg × Tri) : Prop := RL E w (sgC p.1) p.2.1
theorem fits_name {E : Env} {w : World} {p : Sg × Tri} (h : Fits2 E w p) : p.2.name = p.1.name := by
  obtain ⟨x, u, m, h1, h2⟩ := p.2.eq
  unfold Fits2 at h
  rw [h1] at h
  obtain ⟨u0, vs, e, k1, _⟩ := RL.cons_inv (show RL E w (.str p.1.name :: [avI p.1.args, .int .i64 p.1.ret]) _ from h)
  cases e
  obtain ⟨y, hy, e2⟩ := rv_str k1
  cases hy
  rw [h2]; exact e2
theorem rows2_of {E : Env} {w : World} : ∀ (es : List Sg) (us : List Value), RL E w (es.flatMap sgC) us → ∃ Z : List (Sg × Tri), Z.map (·.1) = es ∧ (∀ p ∈ Z, Fits2 E w p) ∧ us = (Z.map (·.2)).flatMap (·.1)
  | [], us, h => ⟨[], rfl, by simp, List.eq_nil_of_length_eq_zero h.len⟩
  | g :: es, us, h => by
    have h3 : (sgC g).length = 3 := rfl
    have ht := h.take 3
    have hd := h.drop 3
    rw [List.flatMap_cons, List.take_left' h3] at ht
    rw [List.flatMap_cons, List.drop_left' h3] at hd
    obtain ⟨Z, z1, z2, z3⟩ := rows2_of es _ hd
    have hone : ∀ c ∈ sgC g, c.one = true := by
      intro c hc
      simp [sgC] at hc
      rcases hc with rfl | rfl | rfl
      · rfl
      · exact avI_one _
      · rfl
    have hx : ∃ x, (us.take 3)[0]? = some (.string x) := by
      obtain ⟨u0, vs, e, k1, _⟩ := RL.cons_inv (show RL E w (.str g.name :: [avI g.args, .int .i64 g.ret]) _ from ht)
      obtain ⟨y, hy, _⟩ := rv_str k1
      exact ⟨y, by rw [e, hy]; rfl⟩
    refine ⟨(g, ⟨us.take 3, ht.len, ones_of ht hone, hx⟩) :: Z, by rw [List.map_cons, z1], ?_, ?_⟩
    · intro p hp
      rcases List.mem_cons.mp hp with rfl | hp
      · exact ht
      · exact z2 p hp
    · rw [List.map_cons, List.flatMap_cons, ← z3]
      exact (List.take_append_drop 3 us).symm
theorem rows2_back {E : Env} {w : World} : ∀ (Z : List (Sg × Tri)), (∀ p ∈ Z, Fits2 E w p) → RL E w ((Z.map (·.1)).flatMap sgC) ((Z.map (·.2)).flatMap (·.1))
  | [], _ => RL.nil _ _
  | p :: Z, h => by
    rw [List.map_cons, List.map_cons, List.flatMap_cons, List.flatMap_cons]
    exact (show RL E w (sgC p.1) p.2.1 from h p List.mem_cons_self).append (rows2_back Z fun q hq => h q (List.mem_cons_of_mem _ hq))
theorem flat_at (d : Array Tri) {j : Nat} (hj : j < d.size * 3) : (Go.Sort.flatK (fun a : Tri => a.1) 3 d)[j]? = (d.toList.flatMap (·.1))[j]? := by
  have h3 : ∀ a ∈ d.toList, (a.1).length = 3 := fun a _ => a.2.1
  obtain ⟨hi, h1⟩ := Vm.flat_get (fun a : Tri => a.1) (k := 3) (by omega) d.toList h3 j (by rw [Array.length_toList]; exact hj)
  rw [h1]
  have hlt : j % 3 < (d.toList[j / 3]).1.length := by rw [h3 _ (List.getElem_mem hi)]; omega
  have h2 := Go.Sort.get_flatK (fun a : Tri => a.1) 3 d j hj
  rw [getElem!_pos _ _ (by rw [Go.Sort.size_flatK]; exact hj)] at h2
  rw [Array.getElem?_eq_getElem (by rw [Go.Sort.size_flatK]; exact hj), h2]
  rw [List.getElem?_eq_getElem hlt]
  congr 1
  have hi' : j / 3 < d.size := by rw [Array.length_toList] at hi; exact hi
  rw [getElem!_pos d _ hi']
  rw [getElem!_pos _ _ (by rw [(d[j / 3]).2.1]; omega)]
  rfl
end Go.Proofs.Ytjnejkganejdbaa
namespace Go.Proofs.Ytjnejkganejdbaa
open Go Go.Vm
set_option linter.unusedVariables false
theorem enters83 : ∀ args w, (callFunc 48 args).run Try.prog w = .ok (.enter 48 args) w := enters_of Try.func48 (by kernel_rfl) rfl
theorem sort_calls {s : St} {E : Env} {w : World} (rel : Rel s E w) {b : Vm.Id} {cap : Nat} {es : List Sg} (ho : s.obj b = .cells (es.flatMap sgC)) (hu : Uniq es) (hlen : es.length < 4611686018427387904) :
    Calls Try.prog 47 #[.slice (some ⟨(E.φ b).block, (E.φ b).off, none⟩) es.length cap, .func (.func 48) #[] #[]] w fun e w' => e = .returned (.tuple #[]) ∧ Went s E w (s.put b (.cells ((sortG es).flatMap sgC))) E w' := by
  obtain ⟨c, ty, us, H⟩ := rel.h.cells b _ ho
  obtain ⟨Z, z1, z2, z3⟩ := rows2_of es us H.row
  obtain ⟨D, hD⟩ : ∃ D : List Tri, D = Z.map (·.2) := ⟨_, rfl⟩
  have hDl : D.toArray.size = es.length := by rw [List.size_toArray, hD, List.length_map, ← z1, List.length_map]
  have hul : us.length = es.length * 3 := by rw [z3, ← hD, Vm.flat_len (fun a : Tri => a.1) (k := 3) D fun a _ => a.2.1, ← hDl, List.size_toArray]
  have hat : ∀ j, j < es.length * 3 → c[(E.φ b).off + j]? = (Go.Sort.flatK (fun a : Tri => a.1) 3 D.toArray)[j]? := by
    intro j hj
    rw [flat_at _ (by rw [hDl]; exact hj)]
    show _ = (D.flatMap (·.1))[j]?
    rw [hD, ← z3, List.getElem?_eq_getElem (by omega)]
    exact H.at_ j _ (List.getElem?_eq_getElem (by omega))
  have hH : Go.Sort.HoldsK (fun a : Tri => a.1) 3 w (E.φ b).block (E.φ b).off D.toArray := by
    intro j hj
    rw [Go.Sort.size_flatK, hDl] at hj
    have h1 := hat j hj
    have hjs : j < (Go.Sort.flatK (fun a : Tri => a.1) 3 D.toArray).size := by rw [Go.Sort.size_flatK, hDl]; exact hj
    rw [Array.getElem?_eq_getElem hjs] at h1
    refine ⟨?_, ?_⟩
    · unfold World.cell?
      rw [H.heap]
      show c[(E.φ b).off + j]? = _
      rw [h1, getElem!_pos _ j hjs]; rfl
    · unfold World.frozen?
      rw [H.heap]
      simp
  have hblk : (E.φ b).block < w.heap.size := (Array.getElem?_eq_some_iff.mp H.heap).1
  have hc := Go.Proofs.AnyQ.slices_SortFunc laysSort 3 (fun w => Try.isAgg44 w) (fun w => Try.sizeOf44 w) (fun a : Tri => a.1) (fun a => a.2.1) (fun a => a.2.2.1) triCmp tri_swo 48 #[] (E.φ b).block (E.φ b).off cap D.toArray w enters83 (tri_lays _ _ _ _) hH hblk (by rw [hDl]; exact hlen)
  rw [hDl] at hc
  change Calls Try.prog 47 _ _ _ at hc
  refine hc.mono ?_
  rintro e w' ⟨rfl, d', m, os, hp, hs, rfl⟩
  refine ⟨rfl, ?_⟩
  have hsz : d'.size = es.length := by rw [hp.1, hDl]
  have hperm : d'.toList.Perm D := by
    have h1 := hp.2.2
    have e1 : (d'.extract 0 es.length).toList = d'.toList := by rw [← hsz]; simp
    have e2 : (D.toArray.extract 0 es.length).toList = D := by rw [← hDl]; simp
    rw [e1, e2] at h1
    exact h1
  obtain ⟨Z', p1, p2⟩ := perm_lift hperm Z hD.symm
  have hfit : ∀ p ∈ Z', Fits2 E w p := fun p hp => z2 p (p1.mem_iff.mp hp)
  have hzl : Z'.length = es.length := by rw [p1.length_eq, ← z1, List.length_map]
  have hse : Z'.map (·.1) = sortG es := by
    refine sorted_uniq hu (by rw [← z1]; exact p1.map _) ?_
    rw [List.pairwise_map]
    rw [List.pairwise_iff_getElem]
    intro i j hi hj hij
    have hjl : j < es.length := by omega
    have h1 := hs i j (by omega) hij hjl
    rw [tri_lt] at h1
    have hd : ∀ q (hq : q < Z'.length), d'[q]! = Z'[q].2 := by
      intro q hq
      have hq' : q < d'.size := by omega
      rw [getElem!_pos d' q hq']
      have h2 : d'.toList[q]'(by rw [Array.length_toList]; exact hq') = (Z'.map (·.2))[q]'(by rw [List.length_map]; exact hq) := by simp only [p2]
      rw [List.getElem_map] at h2
      rw [← h2]; rfl
    rw [hd i hi, hd j hj, fits_name (hfit _ (List.getElem_mem hi)), fits_name (hfit _ (List.getElem_mem hj))] at h1
    simpa using h1
  have hback := rows2_back Z' hfit
  rw [hse, p2] at hback
  have hput : (Go.Proofs.sortWorldK (fun a : Tri => a.1) 3 w (E.φ b).block (E.φ b).off m d' os).heap = (w.heap.modify (E.φ b).block (Go.Sort.onCells (Go.Sort.putCells id (E.φ b).off (Go.Sort.flatK (fun a : Tri => a.1) 3 d')))) ++ os := rfl
  have hfsz : (Go.Sort.flatK (fun a : Tri => a.1) 3 d').size = es.length * 3 := by rw [Go.Sort.size_flatK, hsz]
  refine row_turned (c := c) (c' := Go.Sort.putCells id (E.φ b).off (Go.Sort.flatK (fun a : Tri => a.1) 3 d') c) (e := ty) (us' := d'.toList.flatMap (·.1)) rel ho H.heap ?_ (by simp [Go.Sort.putCells]) (fun k hk hne => ?_) ?_ rfl rfl rfl hback ?_ ?_
  · rw [hput, Array.getElem?_append_left (by simpa using hblk), Array.getElem?_modify, if_pos rfl, H.heap]; rfl
  · rw [hput, Array.getElem?_append_left (by simpa using hk), Array.getElem?_modify, if_neg (fun h => hne h.symm)]
  · rw [hput]; simp
  · intro a ha
    obtain ⟨g, hg, ha⟩ := List.mem_flatMap.mp ha
    simp [sgC] at ha
    rcases ha with rfl | rfl | rfl
    · rfl
    · exact avI_one _
    · rfl
  · intro j u hu
    have hj : j < es.length * 3 := by
      have := (List.getElem?_eq_some_iff.mp hu).1
      rw [Vm.flat_len (fun a : Tri => a.1) (k := 3) d'.toList fun a _ => a.2.1, Array.length_toList, hsz] at this; exact this
    rw [← flat_at d' (by rw [hsz]; exact hj)] at hu
    have hjs : j < (Go.Sort.flatK (fun a : Tri => a.1) 3 d').size := by rw [hfsz]; exact hj
    have hcs : (E.φ b).off + j < c.size := by
      have := hat j hj
      have hjs0 : j < (Go.Sort.flatK (fun a : Tri => a.1) 3 D.toArray).size := by rw [Go.Sort.size_flatK, hDl]; exact hj
      rw [Array.getElem?_eq_getElem hjs0] at this
      exact (Array.getElem?_eq_some_iff.mp this).1
    unfold Go.Sort.putCells
    rw [Array.getElem?_mapIdx, Array.getElem?_eq_getElem hcs]
    simp only [Option.map_some]
    rw [if_pos ⟨by omega, by omega⟩, Nat.add_sub_cancel_left, getElem!_pos _ j hjs]
    rw [Array.getElem?_eq_getElem hjs] at hu
    exact hu
end Go.Proofs.Ytjnejkganejdbaa
namespace Go.Proofs.Ytjnejkganejdbaa
open Go Go.Vm
set_option linter.unusedVariables false
theorem sort_none (p : Option Addr) (cap : Nat) (fv : Value) (w : World) : Calls Try.prog 47 #[.slice p 0 cap, fv] w fun e w' => e = .returned (.tuple #[]) ∧ w' = w := AnyF.slices_SortFunc_none laysSort p cap fv w
theorem sort_sound : Sound1 F.slices_SortFunc SortFunc_B := by
  intro args s r s' h
  have ev : F.slices_SortFunc.val = 47 := by kernel_rfl
  have e82 : F.term_All_1.val = 48 := by kernel_rfl
  refine ⟨⟨Try.f47, by rw [ev]; exact Try.func47, by kernel_rfl, by decide⟩, fun E w vals rel hrl => ?_⟩
  rcases sortB_ok h with ⟨b, es, ht, rfl, rfl⟩ | ⟨rfl, rfl, rfl⟩
  · obtain ⟨ex, rfl⟩ := ht.args
    obtain ⟨u1, vs1, rfl, k1, hrl⟩ := hrl.cons_inv
    obtain ⟨u2, vs2, rfl, k2, hrl⟩ := hrl.cons_inv
    have e3 : vs2 = [] := List.eq_nil_of_length_eq_zero hrl.len
    subst e3
    cases k1 with | sl _ _ _ _ cap' _ hD hl hc hx hs =>
    cases k2 with | fn _ _ _ us vs q1 q2 q3 q4 =>
    have e4 : us = [] := List.eq_nil_of_length_eq_zero q1
    have e5 : vs = [] := List.eq_nil_of_length_eq_zero q3
    subst e4; subst e5
    rw [ev]
    refine Calls.mono (by simpa [e82] using sort_calls rel (cap := cap') ht.row ht.uniq ht.len) ?_
    rintro e w' ⟨rfl, hw⟩
    exact ⟨E, _, rfl, .tup [] [] rfl (by simp), hw⟩
  · obtain ⟨u1, vs1, rfl, k1, hrl⟩ := hrl.cons_inv
    obtain ⟨u2, vs2, rfl, k2, hrl⟩ := hrl.cons_inv
    have e3 : vs2 = [] := List.eq_nil_of_length_eq_zero hrl.len
    subst e3
    cases k1
    rw [ev]
    refine Calls.mono (sort_none none 0 u2 w) ?_
    rintro e w' ⟨rfl, rfl⟩
    exact ⟨E, _, rfl, .tup [] [] rfl (by simp), went_refl rel⟩
theorem bt0_sound : SoundCall Try.prog fun g a s => g.get BT0 a s := base_set sort_sound base_rep
theorem ca0_sound : SoundCall Try.prog CA0 := cc_sound (Vm.drawn_ok follows) bt0_sound
end Go.Proofs.Ytjnejkganejdbaa
namespace Go.Proofs.Ytjnejkganejdbaa
open Go Go.Vm
set_option linter.unusedVariables false
set_option maxRecDepth 100000
noncomputable def A.r1 : List CR := [oo 2 (.mv (.c .nils)), oo 3 (.mv (.c (.bool false)))]
noncomputable def A.r2 : List CR := [oo 9 .mkmap, mm 4 9]
noncomputable def A.r3 : List CR := [mm 10 4, mm 11 0, oo 12 (.callf F.term_names [tt 10, tt 11]), mm 5 12]
noncomputable def A.r4 : List CR := [oo 6 (.mv (.c .nils))]
noncomputable def A.c5 : List CR := [oo 16 (.ext (tt 15) 0)]
noncomputable def A.c6 : List CR := [oo 18 (.ext (tt 17) 1), oo 8 (.alloc [.str [], .nils, .int .i64 0]), on (.store 3 (tt 8) (tt 18))]
noncomputable def A.c7 : List CR := [mm 19 6, oo 20 (.load true 3 (tt 8)), oo 21 (.blit 1 [.str [], .nils, .int .i64 0] [⟨0, 3, tt 20⟩]), oo 22 (.app 3 48 (tt 19) (tt 21)), mm 6 22]
noncomputable def A.p1 : List CR := [mm 23 6, oo 24 (.callf F.slices_SortFunc [tt 23, .c (.fn F.term_All_1 [] [])])]
noncomputable def A.p2 : List CR := [mm 25 6, mm 26 5, mm 2 25, mm 3 26]
theorem A.pre_eq : allM.cpre = [.region A.r1, .region A.r2, .region A.r3, .region A.r4] := by kernel_rfl
theorem A.post_eq : allM.cpost = .seq (.region A.p1) (.seq (.region A.p2) .ret) := by kernel_rfl
theorem A.rs_eq : allM.rs = [.tmp (vv 2), .tmp (vv 3)] := by kernel_rfl
theorem A.co0_eq : allM.co0 = .mv (tt 4) := by kernel_rfl
theorem A.cd0_eq : allM.cd0 = .d (vv 13) := by kernel_rfl
theorem A.cd1_eq : allM.cd1 = .d (vv 14) := by kernel_rfl
theorem A.c5_eq : allT.c5 = A.c5 := by kernel_rfl
theorem A.c6_eq : allT.c6 = A.c6 := by kernel_rfl
theorem A.c7_eq : allT.c7 = .region A.c7 := by kernel_rfl
theorem A.nx_eq : allT.nx = .d (vv 15) := by kernel_rfl
theorem A.en_eq : allT.en = .d (vv 17) := by kernel_rfl
theorem A.b_eq : allT.b = tt 16 := by kernel_rfl
theorem isIt_of {it : Tmp} {ib : Vm.Id} {f : Fr AV} (h : (Sl.ofNat it).get f = .ptr ib 0) : isIt it ib f = true := by
  unfold isIt
  rw [h]
  show (decide (ib = ib) && (0 : Nat) == 0) = true
  simp
section
variable {call : CallT} {l : List CR} {f : Fr AV} {s : St}
theorem wo_ex {K : Fr AV → St → Prop} (h : Wo call l K f s) : ∃ f' s', exops call l f s = .nor f' s' ∧ K f' s' := by
  unfold Wo at h
  cases he : exops call l f s with
  | no => rw [he] at h; exact h.elim
  | nor f' s' => rw [he] at h; exact ⟨f', s', rfl, h⟩
  | exit i f' s' => rw [he] at h; exact h.elim
  | ret f' s' => rw [he] at h; exact h.elim
/-- One turn. -/
theorem turn_ok {n : Nat} {ib : Vm.Id} {k v : AV} {K : Fr AV → St → Prop} (hit : (vv 14).get f = .ptr ib 0)
    (h : Wo call A.c5 (fun f1 s1 => (vv 16).get f1 = .bool true ∧ (vv 14).get f1 = .ptr ib 0 ∧ Wo call A.c6 (fun f2 s2 => Wo call A.c7 K f2 s2) ((vv 17).set (.tup [k, v]) f1) s1) ((vv 15).set (.tup [.bool true, k, v]) f) s) :
    ∃ f' s', allT.turn call n ib k v f s = .nor f' s' ∧ K f' s' := by
  obtain ⟨f1, s1, e1, b1, i1, h1⟩ := wo_ex h
  obtain ⟨f2, s2, e2, h2⟩ := wo_ex h1
  obtain ⟨f3, s3, e3, h3⟩ := wo_ex h2
  refine ⟨f3, s3, ?_, h3⟩
  have hi : isIt allT.it ib f = true := isIt_of hit
  have hi1 : isIt allT.it ib f1 = true := isIt_of i1
  unfold Turning.turn
  rw [hi, A.nx_eq, A.c5_eq, A.c6_eq, A.c7_eq, A.en_eq, A.b_eq]
  have e1' : exops call A.c5 (putD (.d (vv 15)) (.tup [.bool true, k, v]) f) s = .nor f1 s1 := e1
  have e2' : exops call A.c6 (putD (.d (vv 17)) (.tup [k, v]) f1) s1 = .nor f2 s2 := e2
  have e3' : excode call n (.region A.c7) f2 s2 = .nor f3 s3 := e3
  rw [e1', br_true]
  show ((vv 16).get f1).onBool RC.no (fun t => br t (br (isIt allT.it ib f1) (onlyNor (blockK allT.id1 (seqK (excode call n (.region A.c7)) (exops call A.c6 (putD (.d (vv 17)) (.tup [k, v]) f1) s1)))) .no) .no) = _
  rw [b1, e2', hi1]
  show onlyNor (blockK allT.id1 (excode call n (.region A.c7) f2 s2)) = _
  rw [e3']; rfl
theorem last_ok {ib : Vm.Id} (hit : (vv 14).get f = .ptr ib 0) : allT.last call ib f s = .nor ((vv 16).set (.bool false) ((vv 15).set (.tup [.bool false]) f)) s := by
  have hi : isIt allT.it ib f = true := isIt_of hit
  unfold Turning.last
  rw [hi, A.nx_eq, A.c5_eq, A.b_eq]
  have h : Wo call A.c5 (fun f1 s1 => f1 = ((vv 16).set (.bool false) ((vv 15).set (.tup [.bool false]) f)) ∧ s1 = s) ((vv 15).set (.tup [.bool false]) f) s := by
    unfold A.c5
    simp only [go_sem, ↓reduceIte, Nat.reduceMod]
  obtain ⟨f1, s1, e1, rfl, rfl⟩ := wo_ex h
  have e1' : exops call A.c5 (putD (.d (vv 15)) (.tup [.bool false]) f) s1 = .nor _ s1 := e1
  rw [br_true, e1']
  show ((vv 16).get ((vv 16).set (.bool false) ((vv 15).set (.tup [.bool false]) f))).onBool RC.no (fun t => br t .no (.nor _ s1)) = _
  rw [vv_gs]; rfl
end
theorem p_mkmap (call : CallT) (f : Fr AV) (s : St) : exop .mkmap call f s = s.alloc (.map []) fun b s => .ok (.map b) s := nd rfl
theorem Sx_mkmap {s : St} {l : List AO} (hr : Room s) (hl : l.length ≤ 5000) (call : CallT) (f : Fr AV) : exop .mkmap call f (Sx s l) = .ok (.map (nm s l.length)) (Sx s (l ++ [.map []])) := by rw [p_mkmap]; exact Sx_alloc hr hl _ _
/-- One more, of so many cells. -/
theorem vapp_row {s : St} {L : List AO} (hr : Room s) (hl : L.length ≤ 5000) {sz bytes len i : Nat} {b : Vm.Id} {a cs : List AV} (hb : b.val < s.n.val) (hi : s.obj b = .cells cs) (hc : cs.length = len * sz) (hsz : sz ≠ 0) (ha : a.length = sz) (hL : L[i]? = some (.cells a)) (hby : (len + 1) * bytes ≤ limit) (hm : len + 1 ≤ limit) :
    vapp sz bytes (.sl b 0 len len sz) (.sl (nm s i) 0 1 1 0) (Sx s L) = .ok (.sl (nm s L.length) 0 (len + 1) (len + 1) sz) (Sx (s.put b .dead) (L ++ [.cells (cs ++ a)])) := by
  obtain ⟨h1, h2, h3⟩ := isl_lit hr hl hL (n := 1) (by unfold limit; omega) 1 0
  rw [vapp_growO hr hl hb hi hc hsz h1 (by rw [h2, h3]; omega) (by rw [h3]; exact hby) (by rw [h3]; exact hm) (by rw [h3]; omega), h2, h3, Nat.one_mul, List.take_of_length_le (by omega)]
theorem vapp_row0 {s : St} {L : List AO} (hr : Room s) (hl : L.length ≤ 5000) {sz bytes i : Nat} {a : List AV} (ha : a.length = sz) (hL : L[i]? = some (.cells a)) (hby : bytes ≤ limit) :
    vapp sz bytes .nils (.sl (nm s i) 0 1 1 0) (Sx s L) = .ok (.sl (nm s L.length) 0 1 1 sz) (Sx s (L ++ [.cells a])) := by
  obtain ⟨h1, h2, h3⟩ := isl_lit hr hl hL (n := 1) (by unfold limit; omega) 1 0
  rw [vapp_nils hr hl h1 (by rw [h2, h3]; omega) (by rw [h3]; omega) (by rw [h3]; omega), h2, h3, Nat.one_mul, List.take_of_length_le (by omega)]
end Go.Proofs.Ytjnejkganejdbaa
namespace Go.Vm
set_option linter.unusedVariables false
theorem addG_names {es : List Sg} {g : Sg} (h : (es.map (·.name)).Nodup) : ((addG es g).1.map (·.name)).Nodup := by
  unfold addG
  cases hf : es.find? fun o => decide (g.name = o.name) with
  | some o => exact h
  | none =>
    show ((es ++ [g]).map (·.name)).Nodup
    rw [List.map_append, List.nodup_append]
    refine ⟨h, by simp, fun a ha b hb e => ?_⟩
    simp at hb
    obtain ⟨o, ho, rfl⟩ := List.mem_map.mp ha
    have := List.find?_eq_none.mp hf o ho
    simp at this
    exact this (by rw [← hb, e])
theorem addG_len (es : List Sg) (g : Sg) : (addG es g).1.length ≤ es.length + 1 := by
  unfold addG
  split
  · exact Nat.le_succ _
  · simp
mutual
theorem namesT_uniq : ∀ (t : T) (es : List Sg), (es.map (·.name)).Nodup → ((namesT es t).1.map (·.name)).Nodup
  | .mk op n name sort ks, es, h => by
    rw [namesT]
    refine namesTs_uniq ks _ ?_
    split
    · exact addG_names h
    · exact h
theorem namesTs_uniq : ∀ (l : List T) (es : List Sg), (es.map (·.name)).Nodup → ((namesTs es l).1.map (·.name)).Nodup
  | [], es, h => h
  | t :: l, es, h => by rw [namesTs]; exact namesTs_uniq l _ (namesT_uniq t es h)
end
mutual
theorem namesT_len : ∀ (t : T) (es : List Sg), (namesT es t).1.length ≤ es.length + t.size
  | .mk op n name sort ks, es => by
    have h1 : (T.mk op n name sort ks).size = 1 + T.sizes ks := T.size_kids _
    rw [namesT]
    have h3 := addG_len es ⟨name, ks.map T.sort, sort⟩
    by_cases h4 : op = 4
    · have h2 := namesTs_len ks (addG es ⟨name, ks.map T.sort, sort⟩).1
      simp only [if_pos h4]; omega
    · have h2 := namesTs_len ks es
      simp only [if_neg h4]; omega
theorem namesTs_len : ∀ (l : List T) (es : List Sg), (namesTs es l).1.length ≤ es.length + T.sizes l
  | [], es => Nat.le_refl _
  | t :: l, es => by
    rw [namesTs]
    have h1 : T.sizes (t :: l) = t.size + T.sizes l := rfl
    have h2 := namesTs_len l (namesT es t).1
    have h3 := namesT_len t es
    simp only; omega
end
theorem nats_det {s : St} {v : AV} {l m : List Nat} (h : Nats s v l) (k : Nats s v m) : l = m := by
  have hl := h.len.symm.trans k.len
  refine List.ext_getElem hl fun i h1 h2 => ?_
  obtain ⟨t, e1⟩ := h.el i h1
  obtain ⟨u, e2⟩ := k.el i h2
  rw [e1] at e2
  simp only [List.cons.injEq, AV.int.injEq, true_and] at e2
  omega
theorem rt_det {s : St} {r : List AV} {t u : T} (h : RT s r t) : RT s r u → t = u := by
  intro k
  induction h generalizing u with
  | mk op ng mg n name sort kv kids rest hz hk hl hr ih =>
    cases k with
    | mk _ _ _ n' _ _ _ kids' _ hz' hk' hl' hr' =>
      have e1 : n = n' := by
        obtain ⟨a1, b1⟩ := n
        obtain ⟨a2, b2⟩ := n'
        have h1 := hz.neg
        rw [hz'.neg] at h1
        injection h1 with h1
        have h1' : a2 = a1 := h1
        have h2' : b1 = b2 := nats_det hz.mag hz'.mag
        rw [h1', h2']
      have e2 : kids = kids' := List.ext_getElem (by omega) fun i h1 h2 => ih i h1 (hr' i h2)
      rw [e1, e2]
theorem Ts.det {s : St} {v : AV} {l m : List T} (h : Ts s v l) (k : Ts s v m) : l = m := List.ext_getElem (h.len.symm.trans k.len) fun i h1 h2 => rt_det (h.el i h1) (k.el i h2)
end Go.Vm
namespace Go.Proofs.Ytjnejkganejdbaa
open Go Go.Vm
set_option linter.unusedVariables false
set_option linter.unusedSimpArgs false
set_option maxRecDepth 100000
theorem flat_len3 (es : List Sg) : (es.flatMap sgC).length = es.length * 3 := by
  induction es with
  | nil => rfl
  | cons g es ih => rw [List.flatMap_cons, List.length_append, ih, List.length_cons]; show 3 + _ = _; omega
/-- A row of names that one makes. -/
structure OwnG (n : Nat) (σ : St) (av : AV) (es : List Sg) : Prop where
  h : (av = .nils ∧ es = []) ∨ ∃ b : Vm.Id, av = .sl b 0 es.length es.length 3 ∧ es ≠ [] ∧ σ.obj b = .cells (es.flatMap sgC) ∧ b.val < σ.n.val ∧ n ≤ b.val
theorem avI_fz (n : Nat) (s : St) (l : List Int) : Fz n s (avI l) (avI l) := by
  unfold avI
  by_cases h : l = []
  · rw [if_pos h]; exact .nils
  · rw [if_neg h]
    refine .ts _ _ _ _ _ rfl (fun j c d hc hd => ?_)
    rw [hc] at hd; cases hd
    obtain ⟨m, _, rfl⟩ := List.mem_map.mp (List.mem_of_getElem? hc)
    exact .int _ _
theorem OwnG.fz {n : Nat} {σ : St} {av : AV} {es : List Sg} (h : OwnG n σ av es) : Fz n σ av (avG es) := by
  unfold avG
  rcases h.h with ⟨rfl, rfl⟩ | ⟨b, rfl, hne, h1, h2, h3⟩
  · exact .nils
  · rw [if_neg hne]
    refine .slN b 0 es.length es.length 3 _ _ h3 h1 rfl (fun j c d hc hd => ?_)
    have hc' : (es.flatMap sgC)[j]? = some c := hc
    rw [hd] at hc'; cases hc'
    obtain ⟨g, _, hg⟩ := List.mem_flatMap.mp (List.mem_of_getElem? hd)
    simp only [sgC, List.mem_cons, List.not_mem_nil, or_false] at hg
    rcases hg with rfl | rfl | rfl
    · exact .str _
    · exact avI_fz _ _ _
    · exact .int _ _
noncomputable def fEnt (g : Sg) : AV × AV := (.str g.name, .agg (sgC g))
theorem ent_eq (es : List Sg) : entG (entS es) = es.map fEnt := by unfold entG entS; rw [List.map_map]; rfl
theorem turns_ok {call : CallT} {n : Nat} {ib : Vm.Id} {s0 : St} {flag : AV} : ∀ (qs done : List Sg) (f : Fr AV) (σ : St) (av : AV), done.length + qs.length ≤ 400 → Room σ → Ext s0 σ → σ.n.val + 3 * qs.length ≤ 50000 → (vv 14).get f = .ptr ib 0 → (vv 6).get f = av → (vv 5).get f = flag → OwnG s0.n.val σ av done →
    ∃ f' σ' av', allT.turns call n ib (qs.map fEnt) f σ = .nor f' σ' ∧ Room σ' ∧ Ext s0 σ' ∧ σ'.n.val ≤ σ.n.val + 3 * qs.length ∧ (vv 6).get f' = av' ∧ (vv 5).get f' = flag ∧ OwnG s0.n.val σ' av' (done ++ qs)
  | [], done, f, σ, av, hl, hr, hx, hn, g14, g6, g5, own => by
    refine ⟨_, σ, av, last_ok g14, hr, hx, by omega, ?_, ?_, by rw [List.append_nil]; exact own⟩
    · simp only [go_sem, ↓reduceIte, Nat.reduceMod, Nat.reduceEqDiff, Nat.reduceAdd, Nat.reduceMul, Nat.reduceSub, Nat.reduceLeDiff, Nat.reduceLT, Int.reduceEq, Int.reduceLT, Int.reduceLE, Int.reduceAdd, Int.reduceSub, Int.reduceNeg, reduceCtorEq, Nat.reduceShiftRight, Nat.reduceAnd, Nat.reduceBNe, g6]
    · simp only [go_sem, ↓reduceIte, Nat.reduceMod, Nat.reduceEqDiff, Nat.reduceAdd, Nat.reduceMul, Nat.reduceSub, Nat.reduceLeDiff, Nat.reduceLT, Int.reduceEq, Int.reduceLT, Int.reduceLE, Int.reduceAdd, Int.reduceSub, Int.reduceNeg, reduceCtorEq, Nat.reduceShiftRight, Nat.reduceAnd, Nat.reduceBNe, g5]
  | g :: qs, done, f, σ, av, hl, hr, hx, hn, g14, g6, g5, own => by
    rw [List.length_cons] at hl hn
    have hlen := flat_len3 done
    have hx0 := hx.n
    suffices hs : ∃ f1 σ1, allT.turn call n ib (fEnt g).1 (fEnt g).2 f σ = .nor f1 σ1 ∧ (Room σ1 ∧ Ext s0 σ1 ∧ σ1.n.val ≤ σ.n.val + 3 ∧ (vv 14).get f1 = .ptr ib 0 ∧ (vv 5).get f1 = flag ∧ OwnG s0.n.val σ1 ((vv 6).get f1) (done ++ [g])) by
      obtain ⟨f1, σ1, e1, r1, x1, n1, i1, b1, o1⟩ := hs
      obtain ⟨f2, σ2, av2, e2, r2, x2, n2, i2, b2, o2⟩ := turns_ok (call := call) (n := n) (ib := ib) (s0 := s0) (flag := flag) qs (done ++ [g]) f1 σ1 _ (by simp; omega) r1 x1 (by omega) i1 rfl b1 o1
      refine ⟨f2, σ2, av2, ?_, r2, x2, by rw [List.length_cons]; omega, i2, b2, by rw [List.append_assoc] at o2; exact o2⟩
      show seqK (allT.turns call n ib (qs.map fEnt)) (allT.turn call n ib (fEnt g).1 (fEnt g).2 f σ) = _
      rw [e1]; exact e2
    refine turn_ok g14 ?_
    show Wo call A.c5 _ _ (Sx σ [])
    unfold A.c5 A.c6 A.c7 fEnt sgC
    have ga := avI_one g.args
    rcases own.h with ⟨rfl, rfl⟩ | ⟨b, rfl, hne, h1, h2, h3⟩
    · have hap := vapp_row0 (s := σ) (L := [.cells [.str g.name, avI g.args, .int .i64 g.ret], .cells [.str g.name, avI g.args, .int .i64 g.ret]]) (bytes := 48) (sz := 3) hr (by simp) rfl (i := 1) rfl (by unfold limit; omega)
      simp only [go_sem, ↓reduceIte, Nat.reduceMod, Nat.reduceEqDiff, Nat.reduceAdd, Nat.reduceMul, Nat.reduceSub, Nat.reduceLeDiff, Nat.reduceLT, Int.reduceEq, Int.reduceLT, Int.reduceLE, Int.reduceAdd, Int.reduceSub, Int.reduceNeg, reduceCtorEq, Nat.reduceShiftRight, Nat.reduceAnd, Nat.reduceBNe, g14, g6, g5, hr, ga, hap]
      have vn := nm_val hr (k := 2) (by omega)
      refine ⟨hr.Sx (by simp; omega) (by simp), hx.trans (ext_Sx hr (by simp)), ?_, ⟨.inr ⟨nm σ 2, rfl, by simp, ?_, ?_, by omega⟩⟩⟩
      · rw [Sx_n hr (by simp)]; simp
      · rw [Sx_obj? hr (by simp) (i := 2) rfl]; simp [sgC]
      · rw [vn, Sx_n hr (by simp)]; simp
    · have hap := vapp_row (s := σ) (L := [.cells [.str g.name, avI g.args, .int .i64 g.ret], .cells [.str g.name, avI g.args, .int .i64 g.ret]]) (bytes := 48) (sz := 3) (len := done.length) hr (by simp) h2 h1 hlen (by omega) rfl (i := 1) rfl (by unfold limit; omega) (by unfold limit; omega)
      have hrb := hr.put h2 .dead
      simp only [go_sem, ↓reduceIte, Nat.reduceMod, Nat.reduceEqDiff, Nat.reduceAdd, Nat.reduceMul, Nat.reduceSub, Nat.reduceLeDiff, Nat.reduceLT, Int.reduceEq, Int.reduceLT, Int.reduceLE, Int.reduceAdd, Int.reduceSub, Int.reduceNeg, reduceCtorEq, Nat.reduceShiftRight, Nat.reduceAnd, Nat.reduceBNe, g14, g6, g5, hr, ga, hap]
      have vn := nm_val hr (k := 2) (by omega)
      refine ⟨hrb.Sx (by rw [put_n]; simp; omega) (by simp), (hx.put h3 _).trans (ext_Sx hrb (by simp)), ?_, ⟨.inr ⟨nm σ 2, by simp, by simp, ?_, ?_, by omega⟩⟩⟩
      · rw [Sx_n hrb (by simp), put_n]; simp
      · have hob := Sx_obj? (s := σ.put b .dead) (l := [.cells [.str g.name, avI g.args, .int .i64 g.ret], .cells [.str g.name, avI g.args, .int .i64 g.ret], .cells (done.flatMap sgC ++ [.str g.name, avI g.args, .int .i64 g.ret])]) hrb (by simp) (i := 2) rfl
        rw [nm_put] at hob
        rw [hob]; simp [sgC]
      · rw [vn, Sx_n hrb (by simp), put_n]; simp
end Go.Proofs.Ytjnejkganejdbaa
namespace Go.Proofs.Ytjnejkganejdbaa
open Go Go.Vm
set_option linter.unusedVariables false
set_option linter.unusedSimpArgs false
set_option maxRecDepth 100000
theorem sort0 {s : St} {b : Vm.Id} {es : List Sg} (h : s.obj b = .cells (es.flatMap sgC)) (hu : Uniq es) (hl : es.length < 4611686018427387904) : CA0 F.slices_SortFunc [.sl b 0 es.length es.length 3, .fn F.term_All_1 [] []] s = .ok Vm.undef (s.put b (.cells ((sortG es).flatMap sgC))) :=
  cc_ok.mpr (.base _ _ _ _ _ (by rw [show F.slices_SortFunc.get BT0 = SortFunc_B from by kernel_rfl]; exact sortB_eq ⟨⟨3, rfl⟩, h, hu, hl⟩))
theorem sort0_nil (s : St) : CA0 F.slices_SortFunc [.nils, .fn F.term_All_1 [] []] s = .ok Vm.undef s :=
  cc_ok.mpr (.base _ _ _ _ _ (by rw [show F.slices_SortFunc.get BT0 = SortFunc_B from by kernel_rfl]; exact sortB_nil s))
theorem sortG_len (es : List Sg) : (sortG es).length = es.length := (sortG_perm es).length_eq
theorem sortG_eq {es qs : List Sg} (hu : Uniq es) (h : qs.Perm es) : sortG qs = sortG es := sorted_uniq hu ((sortG_perm qs).trans h) (sortG_sorted qs)
theorem post_ok {n : Nat} {s0 : St} {flag : AV} {qs : List Sg} {f : Fr AV} {σ : St} {av : AV} (hu : Uniq qs) (hl : qs.length ≤ 400) (hr : Room σ) (hx : Ext s0 σ) (g6 : (vv 6).get f = av) (g5 : (vv 5).get f = flag) (own : OwnG s0.n.val σ av qs) :
    ∃ f' σ', excode CA0 n allM.cpost f σ = .ret f' σ' ∧ (vv 2).get f' = av ∧ (vv 3).get f' = flag ∧ Ext s0 σ' ∧ OwnG s0.n.val σ' av (sortG qs) := by
  suffices hs : Wo CA0 A.p1 (fun f1 s1 => Wo CA0 A.p2 (fun f' σ' => (vv 2).get f' = av ∧ (vv 3).get f' = flag ∧ Ext s0 σ' ∧ OwnG s0.n.val σ' av (sortG qs)) f1 s1) f (Sx σ []) by
    obtain ⟨f1, s1, e1, h1⟩ := wo_ex hs
    obtain ⟨f2, s2, e2, h2⟩ := wo_ex h1
    refine ⟨f2, s2, ?_, h2⟩
    rw [A.post_eq]
    show seqK (excode CA0 n (.seq (.region A.p2) .ret)) (exops CA0 A.p1 f σ) = _
    rw [show exops CA0 A.p1 f σ = .nor f1 s1 from e1]
    show seqK (excode CA0 n .ret) (exops CA0 A.p2 f1 s1) = _
    rw [e2]; rfl
  unfold A.p1 A.p2
  rcases own.h with ⟨rfl, rfl⟩ | ⟨b, rfl, hne, h1, h2, h3⟩
  · have e := sort0_nil σ
    simp only [go_sem, ↓reduceIte, Nat.reduceMod, Nat.reduceEqDiff, Nat.reduceAdd, Nat.reduceMul, Nat.reduceSub, Nat.reduceLeDiff, Nat.reduceLT, Int.reduceEq, Int.reduceLT, Int.reduceLE, Int.reduceAdd, Int.reduceSub, Int.reduceNeg, reduceCtorEq, Nat.reduceShiftRight, Nat.reduceAnd, Nat.reduceBNe, g6, g5, e, Sx_nil]
    exact ⟨hx, ⟨.inl ⟨rfl, by simp [sortG]⟩⟩⟩
  · have e := sort0 h1 hu (by omega)
    simp only [go_sem, ↓reduceIte, Nat.reduceMod, Nat.reduceEqDiff, Nat.reduceAdd, Nat.reduceMul, Nat.reduceSub, Nat.reduceLeDiff, Nat.reduceLT, Int.reduceEq, Int.reduceLT, Int.reduceLE, Int.reduceAdd, Int.reduceSub, Int.reduceNeg, reduceCtorEq, Nat.reduceShiftRight, Nat.reduceAnd, Nat.reduceBNe, g6, g5, e, Sx_nil]
    refine ⟨hx.put h3 _, ⟨.inr ⟨b, by rw [sortG_len], ?_, ?_, ?_, h3⟩⟩⟩
    · intro h0
      exact hne (List.eq_nil_of_length_eq_zero (by rw [← sortG_len, h0]; rfl))
    · rw [put_self]
    · rw [put_n]; exact h2
theorem pre_ok {n : Nat} {s : St} {v : AV} {l : List T} (hr : Room s) (hn : s.n.val ≤ 30000) (hs : T.sizes l ≤ 400) (hv : Ts s v l) :
    ∃ f1 s1, excodes CA0 n allM.cpre (frame0 [v]) s = .nor f1 s1 ∧ (vv 4).get f1 = .map (nm s 0) ∧ (vv 5).get f1 = .bool (namesTs [] l).2 ∧ (vv 6).get f1 = .nils ∧ Room s1 ∧ Ext s s1 ∧ s1.n.val ≤ s.n.val + 1 + 4 * T.sizes l ∧ (nm s 0).val < s1.n.val ∧ s1.obj (nm s 0) = .map ((namesTs [] l).1.map fEnt) := by
  have x1 := ext_Sx (s := s) (l := [.map []]) hr (by simp)
  have n1 := Sx_n (s := s) (l := [.map []]) hr (by simp)
  simp only [List.length_cons, List.length_nil] at n1
  have v0 := nm_val hr (k := 0) (by omega)
  obtain ⟨s1, fn1, r1, k1, m1, o1⟩ := names0_ok _ l (Nat.le_refl _) hs (Sx s [.map []]) v (nm s 0) [] (hr.Sx (by simp; omega) (by simp)) (by omega) (by omega) (Sx_obj? hr (by simp) (i := 0) rfl) (by simp) (hv.x x1)
  suffices hw : Wo CA0 A.r1 (fun f q => Wo CA0 A.r2 (fun f q => Wo CA0 A.r3 (fun f q => Wo CA0 A.r4 (fun f1 σ => σ = s1 ∧ (vv 4).get f1 = .map (nm s 0) ∧ (vv 5).get f1 = .bool (namesTs [] l).2 ∧ (vv 6).get f1 = .nils) f q) f q) f q) (frame0 [v]) (Sx s []) by
    obtain ⟨f1, t1, e1, hw⟩ := wo_ex hw
    obtain ⟨f2, t2, e2, hw⟩ := wo_ex hw
    obtain ⟨f3, t3, e3, hw⟩ := wo_ex hw
    obtain ⟨f4, t4, e4, rfl, g4, g5, g6⟩ := wo_ex hw
    refine ⟨f4, t4, ?_, g4, g5, g6, r1, ⟨by have := k1.kp.n; omega, fun c hc => ?_⟩, by omega, by have := k1.kp.n; omega, by rw [o1, ent_eq]⟩
    · rw [A.pre_eq]
      show seqK (excodes CA0 n [.region A.r2, .region A.r3, .region A.r4]) (exops CA0 A.r1 (frame0 [v]) s) = _
      rw [show exops CA0 A.r1 (frame0 [v]) s = .nor f1 t1 from e1]
      show seqK (excodes CA0 n [.region A.r3, .region A.r4]) (exops CA0 A.r2 f1 t1) = _
      rw [e2]
      show seqK (excodes CA0 n [.region A.r4]) (exops CA0 A.r3 f2 t2) = _
      rw [e3]
      show seqK (excodes CA0 n []) (exops CA0 A.r4 f3 t3) = _
      rw [e4]; rfl
    · rw [k1.oth c (by omega) (fun e => by rw [e] at hc; omega)]
      exact x1.old c hc
  unfold A.r1 A.r2 A.r3 A.r4
  simp only [go_sem, ↓reduceIte, Nat.reduceMod, Nat.reduceEqDiff, Nat.reduceAdd, Nat.reduceMul, Nat.reduceSub, Nat.reduceLeDiff, Nat.reduceLT, Int.reduceEq, Int.reduceLT, Int.reduceLE, Int.reduceAdd, Int.reduceSub, Int.reduceNeg, reduceCtorEq, Nat.reduceShiftRight, Nat.reduceAnd, Nat.reduceBNe, hr, Sx_mkmap, fn1]
theorem all_runs {s : St} {v : AV} {l : List T} (hr : Room s) (hn : s.n.val ≤ 30000) (hs : T.sizes l ≤ 400) (hv : Ts s v l) :
    Runs Try.prog Try.f35.ntmps ab (frame0 [v]) s fun rc => ∃ f' s' av, rc = .ret f' s' ∧ (vv 2).get f' = av ∧ (vv 3).get f' = .bool (namesTs [] l).2 ∧ Ext s s' ∧ OwnG s.n.val s' av (sortG (namesTs [] l).1) := by
  obtain ⟨f1, s1, he, g4, g5, g6, r1, x1, n1, b1, o1⟩ := pre_ok (n := 0) hr hn hs hv
  have hu : Uniq (namesTs [] l).1 := namesTs_uniq l [] (by simp)
  have hl : (namesTs [] l).1.length ≤ 400 := by have := namesTs_len l []; simp at this; omega
  have x10 := x1.n
  generalize (namesTs [] l).1 = es at *
  have hdr := Vm.drawn_ok follows CA0 ca0_sound
  have hrp := r1.put b1 .dead
  have hr2 : Room (Sx (s1.put (nm s 0) .dead) [.dead]) := hrp.Sx (by rw [put_n]; simp; omega) (by simp)
  have v0 := nm_val hr (k := 0) (by omega)
  have hx2 : Ext s (Sx (s1.put (nm s 0) .dead) [.dead]) := (x1.put (by omega) _).trans (ext_Sx hrp (by simp))
  have hn2 := Sx_n (s := s1.put (nm s 0) .dead) (l := [.dead]) hrp (by simp)
  rw [put_n] at hn2
  simp only [List.length_cons, List.length_nil] at hn2
  have turns : ∀ p : List (AV × AV), p.Perm (es.map fEnt) → ∃ (qs : List Sg) (f' : Fr AV) (σ' : St) (av' : AV), qs.Perm es ∧ allM.T.turns CA0 0 s1.n p (putD allM.cd1 (.ptr s1.n 0) (putD allM.cd0 (.map (nm s 0)) f1)) (Sx (s1.put (nm s 0) .dead) [.dead]) = .nor f' σ' ∧ Room σ' ∧ Ext s σ' ∧ (vv 6).get f' = av' ∧ (vv 5).get f' = .bool (namesTs [] l).2 ∧ OwnG s.n.val σ' av' qs := by
    intro p hp
    obtain ⟨qs, hq, rfl⟩ := perm_lift hp es rfl
    have hql := hq.length_eq
    obtain ⟨f', σ', av', e1, r', x', m', h6, h5, ho⟩ := turns_ok (call := CA0) (n := 0) (ib := s1.n) (s0 := s) (flag := .bool (namesTs [] l).2) qs [] (putD allM.cd1 (.ptr s1.n 0) (putD allM.cd0 (.map (nm s 0)) f1)) (Sx (s1.put (nm s 0) .dead) [.dead]) .nils (by simp; omega) hr2 hx2 (by omega) (by rw [A.cd1_eq, A.cd0_eq]; show (vv 14).get ((vv 14).set _ ((vv 13).set _ f1)) = _; rw [vv_gs]; rfl) (by rw [A.cd1_eq, A.cd0_eq]; show (vv 6).get ((vv 14).set _ ((vv 13).set _ f1)) = _; rw [vv_gs, vv_gs]; exact g6) (by rw [A.cd1_eq, A.cd0_eq]; show (vv 5).get ((vv 14).set _ ((vv 13).set _ f1)) = _; rw [vv_gs, vv_gs]; exact g5) ⟨.inl ⟨rfl, rfl⟩⟩
    exact ⟨qs, f', σ', av', hq, e1, r', x', h6, h5, ho⟩
  rw [show ab = _ from allM.hbody]
  refine Runs.chain ca0_sound hdr 0 allM.hpre he ?_
  refine Runs.seq (Runs.range allM.T ca0_sound hdr 0 allM.hR (v := .map (nm s 0)) (s1 := s1) (mb := nm s 0) (es := es.map fEnt) (s2 := Sx (s1.put (nm s 0) .dead) [.dead]) ?_ ?_ o1 ?_ ?_ ?_) ?_ ?_
  · rw [A.co0_eq, p_mv, e_tt, g4]
  · rw [A.cd0_eq]; show (vv 13).get ((vv 13).set _ f1) = _; rw [vv_gs]; rfl
  · exact hn2
  · intro c
    show ((s1.put (nm s 0) .dead).push .dead).obj c = _
    rw [push_obj, put_n]
    by_cases hc : c = s1.n
    · subst hc
      rw [if_pos rfl]
      split
      · rfl
      · exact (r1.clean _ (Nat.le_refl _)).symm
    · rw [if_neg hc, St.obj_put]
  · intro p hp h0
    obtain ⟨qs, f', σ', av', _, e1, _⟩ := turns p hp
    rw [h0] at e1; cases e1
  · rintro f2 s2 ⟨p, hp, e⟩
    obtain ⟨qs, f', σ', av', hq, e1, r', x', h6, h5, ho⟩ := turns p hp
    rw [e1] at e
    injection e with ef es2
    subst ef; subst es2
    have huq : Uniq qs := by unfold Uniq at hu ⊢; exact (hq.map _).nodup_iff.mpr hu
    obtain ⟨f3, s3, e3, g2, g3, x3, o3⟩ := post_ok (n := 0) huq (by rw [hq.length_eq]; exact hl) r' x' h6 h5 ho
    refine (Runs.code ca0_sound hdr 0 allM.hpost (by rw [e3]; intro h; cases h)).mono (fun rc hrc => ?_)
    rw [e3] at hrc
    rw [sortG_eq hu hq] at o3
    exact ⟨f3, s3, _, hrc, g2, g3, x3, o3⟩
  · rintro rc ⟨p, hp, e⟩ hno
    obtain ⟨qs, f', σ', av', hq, e1, _⟩ := turns p hp
    rw [e1] at e
    exact absurd e (hno _ _)
theorem all_calls {s : St} {E : Env} {w : World} {v : AV} {vals : List Value} {l : List T} (hr : Room s) (hn : s.n.val ≤ 30000) (hs : T.sizes l ≤ 400) (hv : Ts s v l) (rel : Rel s E w) (hrl : RL E w [v] vals) :
    Calls Try.prog 35 vals.toArray w fun e w' => ∃ E' u, e = .returned u ∧ RV E' w' (.tup [avG (sortG (namesTs [] l).1), .bool (namesTs [] l).2]) u ∧ Went s E w s E' w' := by
  refine Calls.mono (fn_runs allM.hf allM.hb allM.hrs allM.hnt (by show 1 ≤ Try.f35.ntmps; decide) (all_runs hr hn hs hv) (W := fun r s' => ∃ av, r = .tup [av, .bool (namesTs [] l).2] ∧ Ext s s' ∧ OwnG s.n.val s' av (sortG (namesTs [] l).1)) ?_ rel hrl) ?_
  · rintro rc ⟨f', s', av, rfl, g2, g3, x, o⟩
    refine ⟨.tup [av, .bool (namesTs [] l).2], s', ?_, av, rfl, x, o⟩
    rw [A.rs_eq]
    show R.ok (.tup [(vv 2).get f', (vv 3).get f']) s' = _
    rw [g2, g3]
  · rintro e w' ⟨r, s', E', u, ⟨av, rfl, x, o⟩, rfl, k1, k2⟩
    obtain ⟨G, g1, g2⟩ := settled_went (r := .tup [avG (sortG (namesTs [] l).1), .bool (namesTs [] l).2]) rel k1 k2 (settled_fz x (.tup _ _ rfl (fzl_cons o.fz (fzl_cons (.bool _) (fzl_nil _ _)))))
    exact ⟨G, u, rfl, g1, g2⟩
end Go.Proofs.Ytjnejkganejdbaa
namespace Go.Proofs.Ytjnejkganejdbaa
open Go Go.Vm
set_option linter.unusedVariables false
theorem allB_eq {a : List AV} {s : St} {l : List T} (h : ToName a s l) : All_B a s = .ok (.tup [avG (sortG (namesTs [] l).1), .bool (namesTs [] l).2]) s := by
  have hx : ∃ l : List T, ToName a s l := ⟨l, h⟩
  unfold All_B
  rw [dif_pos hx]
  have hc := hx.choose_spec
  generalize hx.choose = m at hc
  obtain ⟨v, e1, h1⟩ := h.args
  obtain ⟨v', e2, h2⟩ := hc.args
  rw [e1] at e2
  cases e2
  rw [h1.det h2]
theorem allB_ok {a : List AV} {s s' : St} {r : AV} (h : All_B a s = .ok r s') : ∃ l, ToName a s l ∧ r = .tup [avG (sortG (namesTs [] l).1), .bool (namesTs [] l).2] ∧ s' = s := by
  unfold All_B at h
  split at h
  · rename_i hx
    obtain ⟨h1, h2⟩ := ok_inj h
    exact ⟨_, hx.choose_spec, h1.symm, h2.symm⟩
  · exact R.noConfusion h
theorem All_ok {s : St} {v : AV} {l : List T} (hr : Room s) (hn : s.n.val ≤ 30000) (hs : T.sizes l ≤ 400) (hv : Ts s v l) : CA F.term_All [v] s = .ok (.tup [avG (sortG (namesTs [] l).1), .bool (namesTs [] l).2]) s :=
  cc_ok.mpr (.base _ _ _ _ _ (by rw [show F.term_All.get BT = All_B from by kernel_rfl]; exact allB_eq ⟨⟨v, rfl, hv⟩, hr, hn, hs⟩))
theorem all_sound : Sound1 F.term_All All_B := by
  intro args s r s' h
  have ev : F.term_All.val = 35 := by kernel_rfl
  obtain ⟨l, ht, rfl, rfl⟩ := allB_ok h
  obtain ⟨v, rfl, hv⟩ := ht.args
  refine ⟨⟨Try.f35, by rw [ev]; exact Try.func35, by kernel_rfl, by decide⟩, fun E w vals rel hrl => ?_⟩
  rw [ev]
  exact all_calls ht.room ht.n ht.size hv rel hrl
end Go.Proofs.Ytjnejkganejdbaa
namespace Go.Vm
set_option linter.unusedVariables false
noncomputable def vsllo (sz : Nat) (x l : AV) (s : St) : R := x.onSl .no
    (bnd none 0 0 fun m => bnd none m 0 fun h => bnd (some l) h 0 fun _ => .ok .nils s)
    (fun b o len cap ex => bnd none cap cap fun m => bnd none m len fun h => bnd (some l) h 0 fun l =>
      br (br (Nat.beq ex 0) true (br false true (Nat.ble (Nat.succ l) cap)))
        (br (br (Nat.beq ex 0) true (br false true (Nat.beq ex sz))) (.ok (.sl b (br (Nat.beq m l) o (Nat.add o (Nat.mul l sz))) (Nat.sub h l) (Nat.sub m l) (br false 0 ex)) s) .no)
        (.ok (.ts [] 0 0 false) s))
    fun cs len cap ex => bnd none cap cap fun m => bnd none (Nat.min m len) len fun h => bnd (some l) h 0 fun l =>
      .ok (.ts (dr (Nat.mul l sz) (tk (Nat.mul h sz) cs)) (Nat.sub h l) (Nat.sub m l) (br ex true false)) s
theorem p_sllo (call : CallT) (f : Fr AV) (s : St) (sz : Nat) (x l : CO) : exop (.slice sz x (some l) none none) call f s = vsllo sz (ev1 f x) (ev1 f l) s := nd rfl
theorem bnd_some {j : IntKind} {i n d : Nat} (h : i ≤ n) (k : Nat → R) : bnd (some (.int j (i : Int))) n d k = k i := by
  show (AV.int j (i : Int)).idx (n + 1) k = _
  rw [idx_eq (by omega) (by omega)]; rfl
theorem hi_nils (s : St) (j : IntKind) : vslhi 3 .nils (.int j ((0 : Nat) : Int)) s = .ok .nils s := by
  show bnd (some (.int j ((0 : Nat) : Int))) 0 0 (fun h => R.ok .nils s) = _
  rw [bnd_some (by omega)]
theorem lo_nils (s : St) (j : IntKind) : vsllo 3 .nils (.int j ((0 : Nat) : Int)) s = .ok .nils s := by
  show bnd (some (.int j ((0 : Nat) : Int))) 0 0 (fun h => R.ok .nils s) = _
  rw [bnd_some (by omega)]
theorem hi_ts {cs : List AV} {n i : Nat} (h : i ≤ n) (s : St) (j : IntKind) : vslhi 3 (.ts cs n n false) (.int j (i : Int)) s = .ok (.ts (cs.take (i * 3)) i n false) s := by
  show bnd (some (.int j (i : Int))) (Nat.min n n) n (fun h => R.ok (.ts (dr (0 * 3) (tk (h * 3) cs)) (h - 0) (n - 0) false) s) = _
  rw [show Nat.min n n = n from Nat.min_self n, bnd_some h, Nat.zero_mul, tk_eq, dr_eq]; rfl
theorem lo_ts {cs : List AV} {n i : Nat} (h : i ≤ n) (s : St) (j : IntKind) : vsllo 3 (.ts cs n n false) (.int j (i : Int)) s = .ok (.ts ((cs.take (n * 3)).drop (i * 3)) (n - i) (n - i) false) s := by
  show bnd (some (.int j (i : Int))) n 0 (fun l => R.ok (.ts (dr (l * 3) (tk (n * 3) cs)) (n - l) (n - l) false) s) = _
  rw [bnd_some h, tk_eq, dr_eq]
theorem hi_sl {b : Id} {n i : Nat} (h : i ≤ n) (hn : n ≠ 0) (s : St) (j : IntKind) : vslhi 3 (.sl b 0 n n 3) (.int j (i : Int)) s = .ok (.sl b 0 i n 3) s := by
  show bnd (some (.int j (i : Int))) n n (fun h => br (br (Nat.beq 3 0) true (Nat.ble (0 + 1) n)) (R.ok (.sl b (br (Nat.beq n 0) 0 (0 + 0 * 3)) (h - 0) (n - 0) 3) s) (.ok (.ts [] 0 0 false) s)) = _
  rw [bnd_some h, ble_t (by omega), beq_f hn]; rfl
theorem lo_sl {b : Id} {n i : Nat} (h : i < n) (s : St) (j : IntKind) : vsllo 3 (.sl b 0 n n 3) (.int j (i : Int)) s = .ok (.sl b (i * 3) (n - i) (n - i) 3) s := by
  show bnd (some (.int j (i : Int))) n 0 (fun l => br (br (Nat.beq 3 0) true (Nat.ble (l + 1) n)) (R.ok (.sl b (br (Nat.beq n l) 0 (0 + l * 3)) (n - l) (n - l) 3) s) (.ok (.ts [] 0 0 false) s)) = _
  rw [bnd_some (by omega), ble_t (by omega), show Nat.beq n i = false from beq_f (by omega), Nat.zero_add]; rfl
theorem lo_slN {b : Id} {n : Nat} (s : St) (j : IntKind) : vsllo 3 (.sl b 0 n n 3) (.int j (n : Int)) s = .ok (.ts [] 0 0 false) s := by
  show bnd (some (.int j (n : Int))) n 0 (fun l => br (br (Nat.beq 3 0) true (Nat.ble (l + 1) n)) (R.ok (.sl b (br (Nat.beq n l) 0 (0 + l * 3)) (n - l) (n - l) 3) s) (.ok (.ts [] 0 0 false) s)) = _
  rw [bnd_some (by omega), ble_f (by omega)]; rfl
/-- Nothing more, to what has grown. -/
theorem vapp_zero {s : St} {sz bytes len : Nat} {b : Id} {y : AV} {cs : List AV} (hi : s.obj b = .cells cs) (hc : cs.length = len * sz) (hy : IsSl s y) (h0 : lenOf y = 0) : vapp sz bytes (.sl b 0 len len sz) y s = .ok (.sl b 0 len len sz) s := by
  unfold vapp
  rw [srcOf_sl hy (by rw [h0]; omega)]
  show (s.obj b).onCells R.no (fun cs => br (Nat.ble (0 + len * sz) (ln cs)) (br (Nat.ble (len + lenOf y) len) (.ok (.sl b 0 (len + lenOf y) len sz) (s.put b (.cells (splice (0 + len * sz) ((rowOf s y).take (lenOf y * sz)) cs)))) _) .no) = _
  rw [hi]
  show br (Nat.ble (0 + len * sz) (ln cs)) (br (Nat.ble (len + lenOf y) len) (R.ok (.sl b 0 (len + lenOf y) len sz) (s.put b (.cells (splice (0 + len * sz) ((rowOf s y).take (lenOf y * sz)) cs)))) _) .no = _
  rw [ln_eq, ble_t (by omega), ble_t (by omega), br_true', br_true', h0, Nat.zero_mul, List.take_zero, Nat.add_zero]
  have e : splice (0 + len * sz) [] cs = cs := by
    have key : ∀ (o : Nat) (l : List AV), splice o [] l = l := by
      intro o l
      induction l generalizing o with
      | nil => cases o <;> rfl
      | cons a l ih => cases o with
        | zero => rfl
        | succ o => show a :: splice o [] l = _; rw [ih]
    exact key _ _
  rw [e, ← hi]
  congr 1
  exact St.ext' (put_n _ _ _) (fun c => by
    rw [St.obj_put]
    split
    · rename_i h; rw [h]
    · rfl)
def RSg (r : List AV) (g : Sg) : Prop := ∃ rest, r = sgC g ++ rest
theorem flat3_drop (L : List Sg) : ∀ i, (L.flatMap sgC).drop (i * 3) = (L.drop i).flatMap sgC := by
  induction L with
  | nil => intro i; simp
  | cons g L ih =>
    intro i
    cases i with
    | zero => simp
    | succ i =>
      rw [List.flatMap_cons, List.drop_succ_cons, ← ih i, show (i + 1) * 3 = 3 + i * 3 by omega, ← List.drop_drop]
      rfl
theorem flat3_take (L : List Sg) : ∀ i, (L.flatMap sgC).take (i * 3) = (L.take i).flatMap sgC := by
  induction L with
  | nil => intro i; simp
  | cons g L ih =>
    intro i
    cases i with
    | zero => simp
    | succ i =>
      rw [List.flatMap_cons, List.take_succ_cons, List.flatMap_cons, ← ih i, show (i + 1) * 3 = i * 3 + 3 by omega]
      rfl
theorem flat3_len (es : List Sg) : (es.flatMap sgC).length = es.length * 3 := by
  induction es with
  | nil => rfl
  | cons g es ih => rw [List.flatMap_cons, List.length_append, ih, List.length_cons]; show 3 + _ = _; omega
theorem avI_ov (n : Nat) (l : List Int) : Ov n (avI l) := by
  unfold avI
  split
  · exact ov_nils n
  · refine ov_ts (fun c hc => ?_) _ _ _
    obtain ⟨m, _, rfl⟩ := List.mem_map.mp hc
    exact ov_int _ _ _
theorem sgC_ov (n : Nat) (es : List Sg) : ∀ c ∈ es.flatMap sgC, Ov n c := by
  intro c hc
  obtain ⟨g, _, hg⟩ := List.mem_flatMap.mp hc
  simp only [sgC, List.mem_cons, List.not_mem_nil, or_false] at hg
  rcases hg with rfl | rfl | rfl
  · exact ov_str _ _
  · exact avI_ov _ _
  · exact ov_int _ _ _
theorem avG_ov (n : Nat) (es : List Sg) : Ov n (avG es) := by
  unfold avG
  split
  · exact ov_nils n
  · exact ov_ts (sgC_ov n es) _ _ _
section
variable {s : St} {v : AV} {L : List Sg}
theorem RowG.len (h : RowG s v L) : lenOf v = L.length := by
  rcases h.h with rfl | ⟨b, rfl, _⟩
  · unfold avG
    split
    · rename_i e; rw [e]; rfl
    · rfl
  · rfl
theorem RowG.row (h : RowG s v L) : rowOf s v = L.flatMap sgC := by
  rcases h.h with rfl | ⟨b, rfl, h1, h2, h3⟩
  · unfold avG
    split
    · rename_i e; rw [e]; rfl
    · rfl
  · show (s.obj b).row.drop 0 = _
    rw [h2]; rfl
theorem RowG.isl (h : RowG s v L) (hl : L.length ≤ 1000) : IsSl s v := by
  rcases h.h with rfl | ⟨b, rfl, h1, h2, h3⟩
  · unfold avG
    split
    · exact .nils
    · exact .ts _ _ _ _ (by unfold limit; omega) (sgC_ov _ _)
  · exact .sl b 0 _ _ _ _ (by unfold limit; omega) h2 h3 (by omega)
theorem RowG.ext {s' : St} (h : RowG s v L) (hx : Ext s s') : RowG s' v L := by
  rcases h.h with h1 | ⟨b, h1, h2, h3, h4⟩
  · exact ⟨.inl h1⟩
  · exact ⟨.inr ⟨b, h1, h2, by rw [hx.old b h4]; exact h3, Nat.lt_of_lt_of_le h4 hx.n⟩⟩
theorem RowG.ov (h : RowG s v L) : Ov s.n.val v := by
  rcases h.h with rfl | ⟨b, rfl, h1, h2, h3⟩
  · exact avG_ov _ _
  · exact ov_sl h3 _ _ _ _
theorem RowG.slr (h : RowG s v L) (hl : L.length ≤ 1000) : SlR s v 3 RSg L := by
  refine ⟨h.isl hl, h.len, fun i hi => ?_⟩
  rw [h.row, flat3_drop, List.drop_eq_getElem_cons hi, List.flatMap_cons]
  exact ⟨_, rfl⟩
/-- An element. -/
theorem SlR.sgName (h : SlR s v 3 RSg L) {i : Nat} (hi : i < L.length) {σ : St} (hx : Ext s σ) : vload false 1 (elp v (i * 3)) σ = .ok (.str L[i].name) σ := by
  obtain ⟨t, ht⟩ := h.el i hi
  rw [vload_x h.sl (by rw [ht]; simp [sgC]) false 1 hx, ht]
  exact wrap1_one _ _ _ _
theorem SlR.sgLoad (h : SlR s v 3 RSg L) {i : Nat} (hi : i < L.length) {σ : St} (hx : Ext s σ) : vload true 3 (elp v (i * 3)) σ = .ok (.agg (sgC L[i])) σ := by
  obtain ⟨t, ht⟩ := h.el i hi
  rw [vload_x h.sl (by rw [ht]; simp [sgC]) true 3 hx, ht, wrap1_agg (by simp [sgC])]
  rfl
theorem SlR.sgFld (h : SlR s v 3 RSg L) {i : Nat} (hi : i < L.length) (σ : St) : vfaddr 0 (elp v (i * 3)) σ = .ok (elp v (i * 3)) σ := by
  obtain ⟨t, ht⟩ := h.el i hi
  exact vfaddr_any h.sl (by intro e; rw [e] at ht; simp [sgC] at ht) _ _ _
theorem RowG.hi (h : RowG s v L) (hl : L.length ≤ 1000) {i : Nat} (hi : i ≤ L.length) : ∃ x, (∀ (j : IntKind) (σ : St), vslhi 3 v (.int j (i : Int)) σ = .ok x σ) ∧ lenOf x = i ∧ ∀ σ, Ext s σ → IsSl σ x ∧ i * 3 ≤ (rowOf σ x).length ∧ (rowOf σ x).take (i * 3) = (L.take i).flatMap sgC := by
  rcases h.h with rfl | ⟨b, rfl, h1, h2, h3⟩
  · unfold avG
    split
    · rename_i e
      subst e
      have e0 : i = 0 := by simpa using hi
      subst e0
      exact ⟨.nils, fun j σ => hi_nils σ j, rfl, fun σ hx => ⟨.nils, by simp, by simp⟩⟩
    · refine ⟨_, fun j σ => hi_ts hi σ j, rfl, fun σ hx => ⟨.ts _ _ _ _ (by unfold limit; omega) (fun c hc => sgC_ov _ L c (List.mem_of_mem_take hc)), ?_, ?_⟩⟩
      · show i * 3 ≤ ((L.flatMap sgC).take (i * 3)).length
        rw [List.length_take, flat3_len]; omega
      · show ((L.flatMap sgC).take (i * 3)).take (i * 3) = _
        rw [List.take_take, Nat.min_self, flat3_take]
  · have hn : L.length ≠ 0 := fun e => h1 (List.eq_nil_of_length_eq_zero e)
    refine ⟨_, fun j σ => hi_sl hi hn σ j, rfl, fun σ hx => ?_⟩
    have ho : σ.obj b = .cells (L.flatMap sgC) := by rw [hx.old b h3]; exact h2
    refine ⟨.sl b 0 _ _ _ _ (by unfold limit; omega) ho (Nat.lt_of_lt_of_le h3 hx.n) (by omega), ?_, ?_⟩
    · show i * 3 ≤ ((σ.obj b).row.drop 0).length
      rw [ho]; show i * 3 ≤ (L.flatMap sgC).length; rw [flat3_len]; omega
    · show ((σ.obj b).row.drop 0).take (i * 3) = _
      rw [ho]; exact flat3_take L i
theorem RowG.lo (h : RowG s v L) (hl : L.length ≤ 1000) {i : Nat} (hi : i ≤ L.length) : ∃ x, (∀ (j : IntKind) (σ : St), vsllo 3 v (.int j (i : Int)) σ = .ok x σ) ∧ lenOf x = L.length - i ∧ ∀ σ, Ext s σ → IsSl σ x ∧ (L.length - i) * 3 ≤ (rowOf σ x).length ∧ (rowOf σ x).take ((L.length - i) * 3) = (L.drop i).flatMap sgC := by
  have hdl : ((L.drop i).flatMap sgC).length = (L.length - i) * 3 := by rw [flat3_len, List.length_drop]
  rcases h.h with rfl | ⟨b, rfl, h1, h2, h3⟩
  · unfold avG
    split
    · rename_i e
      subst e
      have e0 : i = 0 := by simpa using hi
      subst e0
      exact ⟨.nils, fun j σ => lo_nils σ j, rfl, fun σ hx => ⟨.nils, by simp, by simp⟩⟩
    · have e2 : ((L.flatMap sgC).take (L.length * 3)).drop (i * 3) = (L.drop i).flatMap sgC := by rw [List.take_of_length_le (by rw [flat3_len]; omega), flat3_drop]
      refine ⟨_, fun j σ => lo_ts hi σ j, rfl, fun σ hx => ⟨.ts _ _ _ _ (by unfold limit; omega) (fun c hc => sgC_ov _ L c (List.mem_of_mem_take (List.mem_of_mem_drop hc))), ?_, ?_⟩⟩
      · show _ ≤ (((L.flatMap sgC).take (L.length * 3)).drop (i * 3)).length
        rw [e2, hdl]; omega
      · show (((L.flatMap sgC).take (L.length * 3)).drop (i * 3)).take ((L.length - i) * 3) = _
        rw [e2, List.take_of_length_le (by rw [hdl]; omega)]
  · have hn : L.length ≠ 0 := fun e => h1 (List.eq_nil_of_length_eq_zero e)
    by_cases hlt : i < L.length
    · refine ⟨_, fun j σ => lo_sl hlt σ j, rfl, fun σ hx => ?_⟩
      have ho : σ.obj b = .cells (L.flatMap sgC) := by rw [hx.old b h3]; exact h2
      refine ⟨.sl b _ _ _ _ _ (by unfold limit; omega) ho (Nat.lt_of_lt_of_le h3 hx.n) (by rw [flat3_len]; omega), ?_, ?_⟩
      · show _ ≤ ((σ.obj b).row.drop (i * 3)).length
        rw [ho]; show _ ≤ ((L.flatMap sgC).drop (i * 3)).length; rw [flat3_drop, hdl]; omega
      · show ((σ.obj b).row.drop (i * 3)).take ((L.length - i) * 3) = _
        rw [ho]
        show ((L.flatMap sgC).drop (i * 3)).take _ = _
        rw [flat3_drop, List.take_of_length_le (by rw [hdl]; omega)]
    · have e : i = L.length := by omega
      subst e
      exact ⟨_, fun j σ => lo_slN σ j, by show 0 = _; omega, fun σ hx => ⟨.ts _ _ _ _ (by unfold limit; omega) (by simp), by simp, by simp⟩⟩
end
theorem bytesLess_eq (a b : List UInt8) : Op.bytesLess a b = decide (a < b) := by
  induction a generalizing b with
  | nil => cases b with
    | nil => simp [Op.bytesLess]
    | cons y b => simp [Op.bytesLess]
  | cons x a ih => cases b with
    | nil => simp [Op.bytesLess]
    | cons y b =>
      rw [Bool.eq_iff_iff, decide_eq_true_iff, List.cons_lt_cons_iff]
      simp only [Op.bytesLess, Bool.or_eq_true, Bool.and_eq_true, decide_eq_true_eq, beq_iff_eq, ih]
attribute [go_sem] p_sllo
end Go.Vm
namespace Go.Proofs.Ytjnejkganejdbaa
open Go Go.Vm
set_option linter.unusedVariables false
set_option linter.unusedSimpArgs false
theorem avG_one (l : List Sg) : (avG l).one = true := by unfold avG; split <;> rfl
theorem avG_nil : avG [] = .nils := by unfold avG; rw [if_pos rfl]
theorem avG_row (s : St) (l : List Sg) : RowG s (avG l) l := ⟨.inl rfl⟩
theorem names_one (t : T) : (namesTs [] [t]).1 = (namesT [] t).1 ∧ (namesTs [] [t]).2 = (namesT [] t).2 := by
  rw [namesTs, namesTs]; simp
theorem term_Sigs_ok (s : St) (cs : List AV) (t : T) (htm : t.tame) (hr : Room s) (hn : s.n.val ≤ 20000) (h : RT6 s cs t) : CA F.term_Sigs [.agg cs] s = .ok (.tup [avG (if isT t = true then sortG (namesT [] t).1 else []), .bool (if isT t = true then (namesT [] t).2 else true)]) s := by
  have h6 := h
  obtain ⟨ng, mg, kv, rfl, hz, hk⟩ := h.ex
  have hx := ext_Sx (s := s) (l := [.cells [.int .i64 t.op, ng, mg, .str t.name, .int .i64 t.sort, kv]]) hr (by simp)
  have hrr := hr.Sx (l := [.cells [.int .i64 t.op, ng, mg, .str t.name, .int .i64 t.sort, kv]]) (by simp; omega) (by simp)
  have hnn := Sx_n (s := s) (l := [.cells [.int .i64 t.op, ng, mg, .str t.name, .int .i64 t.sort, kv]]) hr (by simp)
  simp only [List.length_cons, List.length_nil] at hnn
  have f1 := Is_tm t htm _ _ hrr (by omega) (h6.x hx)
  cases hB : isT t
  · rw [hB] at f1
    refine fn_of code_term_Sigs (by simp) ?_
    simp only [go_sem, ↓reduceIte, Nat.reduceMod, Nat.reduceEqDiff, Nat.reduceAdd, Nat.reduceMul, Nat.reduceSub, Nat.reduceLeDiff, Nat.reduceLT, Int.reduceEq, Int.reduceLT, Int.reduceLE, Int.reduceAdd, Int.reduceSub, Int.reduceNeg, reduceCtorEq, Nat.reduceShiftRight, Nat.reduceAnd, Nat.reduceBNe, hr, hz.one, hk.one, f1, Bool.not_false]
    refine settled_fz hx (fz_tup2 ?_ (.bool _))
    rw [avG_nil]; exact .nils
  · rw [hB] at f1
    have hsz : t.size ≤ 400 := by
      unfold isT at hB
      rw [Bool.and_eq_true, decide_eq_true_eq] at hB
      exact hB.1
    have hx2 := ext_Sx (s := s) (l := [.cells [.int .i64 t.op, ng, mg, .str t.name, .int .i64 t.sort, kv], .cells [.int .i64 t.op, ng, mg, .str t.name, .int .i64 t.sort, kv]]) hr (by simp)
    have hr2 := hr.Sx (l := [.cells [.int .i64 t.op, ng, mg, .str t.name, .int .i64 t.sort, kv], .cells [.int .i64 t.op, ng, mg, .str t.name, .int .i64 t.sort, kv]]) (by simp; omega) (by simp)
    have hn2 := Sx_n (s := s) (l := [.cells [.int .i64 t.op, ng, mg, .str t.name, .int .i64 t.sort, kv], .cells [.int .i64 t.op, ng, mg, .str t.name, .int .i64 t.sort, kv]]) hr (by simp)
    simp only [List.length_cons, List.length_nil] at hn2
    have f2 := All_ok hr2 (by omega) (l := [t]) (by show t.size + 0 ≤ 400; omega) (ts_one hr (by simp) (i := 1) rfl (h6.x hx2))
    rw [(names_one t).1, (names_one t).2] at f2
    have ga := avG_one (sortG (namesT [] t).1)
    refine fn_of code_term_Sigs (by simp) ?_
    simp only [go_sem, ↓reduceIte, Nat.reduceMod, Nat.reduceEqDiff, Nat.reduceAdd, Nat.reduceMul, Nat.reduceSub, Nat.reduceLeDiff, Nat.reduceLT, Int.reduceEq, Int.reduceLT, Int.reduceLE, Int.reduceAdd, Int.reduceSub, Int.reduceNeg, reduceCtorEq, Nat.reduceShiftRight, Nat.reduceAnd, Nat.reduceBNe, hr, hz.one, hk.one, f1, f2, ga, Bool.not_true]
    refine settled_fz hx2 (fz_tup2 ?_ (.bool _))
    exact avG_ov _ _ _
end Go.Proofs.Ytjnejkganejdbaa
