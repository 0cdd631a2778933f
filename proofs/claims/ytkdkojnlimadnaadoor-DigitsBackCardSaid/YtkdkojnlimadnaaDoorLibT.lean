/- The types of numbers; the table that is laid. No condition. -/
import Derived.Test.YtkdkojnlimadnaaDoorLibB
import Derived.Test.YtkdkojnlimadnaaDoorLibK
import Derived.Test.YtkdkojnlimadnaaDoorRows
import Derived.KernelRfl
import Derived.LaidLaws
import Derived.LaidHandle
import Derived.LaidMore
namespace Go.Proofs.YtkdkojnlimadnaaDoor
open Go Go.Vm
noncomputable def tys : Tys Tryd.prog where
  b := 4
  u := 46
  su := 22
  z := 24
  hb := Tryd.underlying4
  hu := Tryd.underlying46
  hsu := Tryd.underlying22
  fz := _
  hz := Tryd.underlying24
  kz := rfl
  cb := by kernel_rfl
  cu := by kernel_rfl
  csu := by kernel_rfl
  cz := by kernel_rfl
  bu := Nat.le_of_ble_eq_true (by kernel_rfl)
open Lib in
/-- What the listed variables give: the table of powers of ten. -/
theorem tab_laid {W : World} (h : laidMetH Tryd.prog Rows.digitsOrderRow.laid W) : TabIs Tryd.prog W "internal/strconv.uint64pow10" .u64 pow10Tab := by
  rw [MakeChecks.laidMetH_plain _ _ _ (by kernel_rfl)] at h
  obtain ⟨ps, ⟨g0, t0, cs0, f0, p0, q0, hg0, ht0, hv0, hd0, ⟨g1, t1, cs1, f1, p1, q1, hg1, ht1, hv1, hd1, ⟨g2, t2, cs2, f2, p2, q2, hg2, ht2, hv2, hd2, _⟩, _⟩, _⟩, _, _⟩ := h
  obtain rfl := Option.some.inj (global10.symm.trans hg2)
  have ty : (Tryd.prog.globals[2]?).map (·.type) = some 114 := by kernel_rfl
  obtain rfl := Option.some.inj (ty.symm.trans ht2)
  unfold TabIs
  rw [hv2]
  have hd : DataW.trod _ Tryd.prog W 0 _ _ f2 114 cs2.toList = some (tabData .u64 pow10Tab, p2) := hd2
  have := cells_of_tab Tryd.underlying114 Tryd.underlying64 (by kernel_rfl) (by kernel_rfl) hd
  rw [← this]
open Lib in
theorem lay_of {W : World} (h : TabIs Tryd.prog W "internal/strconv.uint64pow10" .u64 pow10Tab) : ∀ k p, (k, p) ∈ tab10 → k < W.heap.size ∧ p W.heap[k]? := by
  intro k p hm
  obtain ⟨rfl, rfl⟩ := Prod.mk.inj (List.mem_singleton.1 hm)
  unfold TabIs World.var? at h
  rw [global10] at h
  have h2 : (match W.heap[2]? with | some (Obj.cells cs _ _) => some cs | _ => none) = some (pow10Tab.map fun z => Value.int .u64 z).toArray := h
  cases hq : W.heap[2]? with
  | none => rw [hq] at h2; cases h2
  | some o =>
    rw [hq] at h2
    cases o with
    | cells cs e fr =>
      have h3 : cs = _ := Option.some.inj h2
      exact ⟨(Array.getElem?_eq_some_iff.1 hq).1, e, fr, by rw [h3]⟩
    | _ => cases h2
end Go.Proofs.YtkdkojnlimadnaaDoor
