/- The table that is laid. No condition. -/
import Derived.Test.YtdamhfbdogkkjaaGreatDoorLibB
import Derived.Test.YtdamhfbdogkkjaaGreatDoorRows
import Derived.KernelRfl
import Derived.LaidLaws
import Derived.LaidHandle
import Derived.LaidMore
namespace Go.Proofs.YtdamhfbdogkkjaaGreatDoor
open Go Go.Vm
open Lib in
theorem data_eq {H : Type} : (Rows.laid_strings_asciiSpace : DataW H) = tabData .u8 asciiSpaceTab := by kernel_rfl
open Lib in
/-- What the listed variables give: the table of spaces. -/
theorem tab_laid {W : World} (h : laidMetH Tryz.prog Rows.sortArgsRow.laid W) : TabIs Tryz.prog W "strings.asciiSpace" .u8 asciiSpaceTab := by
  rw [MakeChecks.laidMetH_plain _ _ _ (by kernel_rfl)] at h
  obtain ⟨ps, ⟨g0, t0, cs0, f0, p0, q0, hg0, ht0, hv0, hd0, ⟨g1, t1, cs1, f1, p1, q1, hg1, ht1, hv1, hd1, ⟨g2, t2, cs2, f2, p2, q2, hg2, ht2, hv2, hd2, ⟨g3, t3, cs3, f3, p3, q3, hg3, ht3, hv3, hd3, ⟨g4, t4, cs4, f4, p4, q4, hg4, ht4, hv4, hd4, ⟨g5, t5, cs5, f5, p5, q5, hg5, ht5, hv5, hd5, ⟨g6, t6, cs6, f6, p6, q6, hg6, ht6, hv6, hd6, _⟩, _⟩, _⟩, _⟩, _⟩, _⟩, _⟩, _, _⟩ := h
  obtain rfl := Option.some.inj (globalS.symm.trans hg6)
  have ty : (Tryz.prog.globals[0]?).map (·.type) = some 90 := by kernel_rfl
  obtain rfl := Option.some.inj (ty.symm.trans ht6)
  unfold TabIs
  rw [hv6]
  have hd : DataW.trod _ Tryz.prog W 0 _ _ f6 90 cs6.toList = some (Rows.laid_strings_asciiSpace, p6) := hd6
  rw [data_eq] at hd
  have := cells_of_tab Tryz.underlying90 Tryz.underlying5 (by kernel_rfl) (by kernel_rfl) hd
  rw [← this]
open Lib in
theorem lay_of {W : World} (h : TabIs Tryz.prog W "strings.asciiSpace" .u8 asciiSpaceTab) : ∀ k p, (k, p) ∈ tabS → k < W.heap.size ∧ p W.heap[k]? := by
  intro k p hm
  obtain ⟨rfl, rfl⟩ := Prod.mk.inj (List.mem_singleton.1 hm)
  unfold TabIs World.var? at h
  rw [globalS] at h
  have h2 : (match W.heap[0]? with | some (Obj.cells cs _ _) => some cs | _ => none) = some (asciiSpaceTab.map fun z => Value.int .u8 z).toArray := h
  cases hq : W.heap[0]? with
  | none => rw [hq] at h2; cases h2
  | some o =>
    rw [hq] at h2
    cases o with
    | cells cs e fr =>
      have h3 : cs = _ := Option.some.inj h2
      exact ⟨(Array.getElem?_eq_some_iff.1 hq).1, e, fr, by rw [h3]⟩
    | _ => cases h2
end Go.Proofs.YtdamhfbdogkkjaaGreatDoor
