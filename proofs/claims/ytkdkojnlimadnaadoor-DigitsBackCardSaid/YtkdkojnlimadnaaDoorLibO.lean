/- An integer as a text. No condition. -/
import Derived.Test.YtkdkojnlimadnaaDoorLibN
import Derived.Test.YtkdkojnlimadnaaDoorLibD
namespace Go.Proofs.YtkdkojnlimadnaaDoor
open Go Go.Shelf Go.RowKit Go.Lib
set_option linter.unusedVariables false
set_option linter.unusedSectionVars false
theorem field_mag (b u : Value) (W : World) : (Instr.field 24 (.agg #[b, u]) 1).run Tryd.prog W = .ok u W := by
  simp [Instr.field, run_underlying Tryd.underlying24, asAgg, part, Tryd.isAgg22]
theorem alloc_new (W : World) (o : Obj) (k : Nat) (h : k = W.heap.size) : (W.alloc o).heap[k]? = some o := by subst h; simp [World.alloc, -World.alloc_eq]
section
variable (w : World) (bv sv : Value) (txt : List UInt8) (sg : Int) (h1b : bv.oneCell' = true) (h1s : sv.oneCell' = true)
    (hA : ∀ W, Below w.heap.size w W → Calls Tryd.prog 30 #[.agg #[bv, sv]] W fun e W' => ∃ b' u, e = .returned (.agg #[b', u]) ∧ Below W.heap.size W W' ∧ Calls Tryd.prog 13 #[u] W' fun e W'' => e = .returned (.string ⟨txt.toArray⟩) ∧ Below W'.heap.size W' W'')
    (hS : ∀ W, Below w.heap.size w W → Calls Tryd.prog 31 #[.agg #[bv, sv]] W fun e W' => e = .returned (.int .i64 sg) ∧ Below W.heap.size W W')
include h1b h1s hA hS
set_option maxHeartbeats 1000000 in
set_option maxRecDepth 100000 in
theorem print_pos (hsg : (0 : Int) ≤ sg) : Calls Tryd.prog 11 #[.agg #[bv, sv]] w fun e w' => e = .returned (.string ⟨txt.toArray⟩) ∧ Below w.heap.size w w' := by
  have b0 : Below w.heap.size w (w.alloc (.cells #[bv, sv] 24)) := (Below.refl _ w).alloc (Nat.le_refl _) _
  have hA0 := hA _ b0
  have hsz : (w.alloc (.cells #[bv, sv] 24)).heap.size = w.heap.size + 1 := by simp [World.alloc, -World.alloc_eq]
  go_enter Tryd.func11, Tryd.ntmps11
  go_wp2_with (go_at_call 30; refine hA0.mono ?_)
  rintro e W1 ⟨b', u, rfl, b1, hN⟩
  have hf := field_mag b' u W1
  go_wp2_with (go_at_call 13; refine hN.mono ?_)
  rintro e W2 ⟨rfl, b2⟩
  have b3 := below_up b1 b2 b1.size
  have hc0 : W2.cell? ⟨w.heap.size, 0, none⟩ = some bv := by rw [b3.cell (by show w.heap.size < _; omega)]; simp [World.cell?, World.alloc, -World.alloc_eq]
  have hc1 : W2.cell? ⟨w.heap.size, 1, none⟩ = some sv := by rw [b3.cell (by show w.heap.size < _; omega)]; simp [World.cell?, World.alloc, -World.alloc_eq]
  have b4 := below_up b0 b3 (by omega)
  have hS0 := hS _ b4
  clear hA0 hN hA hS
  go_wp2_with (go_at_call 31; refine hS0.mono ?_)
  rintro e W3 ⟨rfl, b5⟩
  have b6 := below_up b4 b5 b4.size
  go_wp2
  go_ret
  exact ⟨rfl, b6⟩
set_option maxHeartbeats 1000000 in
set_option maxRecDepth 100000 in
theorem print_neg (hsg : Hid (sg < 0)) (ht : Hid (txt.length ≤ 2000)) (out : List UInt8) (hout : Hid (out = [40, 45, 32] ++ txt ++ [41])) : Calls Tryd.prog 11 #[.agg #[bv, sv]] w fun e w' => e = .returned (.string ⟨out.toArray⟩) ∧ Below w.heap.size w w' := by
  have b0 : Below w.heap.size w (w.alloc (.cells #[bv, sv] 24)) := (Below.refl _ w).alloc (Nat.le_refl _) _
  have hA0 := hA _ b0
  have hsz : (w.alloc (.cells #[bv, sv] 24)).heap.size = w.heap.size + 1 := by simp [World.alloc, -World.alloc_eq]
  go_enter Tryd.func11, Tryd.ntmps11
  go_wp2_with (go_at_call 30; refine hA0.mono ?_)
  rintro e W1 ⟨b', u, rfl, b1, hN⟩
  have hf := field_mag b' u W1
  go_wp2_with (go_at_call 13; refine hN.mono ?_)
  rintro e W2 ⟨rfl, b2⟩
  have b3 := below_up b1 b2 b1.size
  have hc0 : W2.cell? ⟨w.heap.size, 0, none⟩ = some bv := by rw [b3.cell (by show w.heap.size < _; omega)]; simp [World.cell?, World.alloc, -World.alloc_eq]
  have hc1 : W2.cell? ⟨w.heap.size, 1, none⟩ = some sv := by rw [b3.cell (by show w.heap.size < _; omega)]; simp [World.cell?, World.alloc, -World.alloc_eq]
  have b4 := below_up b0 b3 (by omega)
  have hS0 := hS _ b4
  clear hA0 hN hA hS
  go_wp2_with (go_at_call 31; refine hS0.mono ?_)
  rintro e W3 ⟨rfl, b5⟩
  have b6 := below_up b4 b5 b4.size
  have hsg' : ¬ (0 : Int) ≤ sg := by have h : sg < 0 := hsg; omega
  have ht' : txt.length ≤ 2000 := ht
  have b7 : Below W3.heap.size W3 (W3.alloc (.cells #[.pointer none, .slice none 0 0] 56)) := (Below.refl _ W3).alloc (Nat.le_refl _) _
  have b8 : Below W3.heap.size W3 ((W3.alloc (.cells #[.pointer none, .slice none 0 0] 56)).alloc (.cells #[.string ⟨#[40, 45, 32]⟩, .string ⟨txt.toArray⟩, .string ⟨#[41]⟩] 9)) := b7.alloc (by simp [World.alloc, -World.alloc_eq]) _
  have hb1 := (fresh_b W3).alloc (.cells #[.string ⟨#[40, 45, 32]⟩, .string ⟨txt.toArray⟩, .string ⟨#[41]⟩] 9)
  go_wp2_with (go_at_call 32; refine (put_k W3.heap.size W3.heap.size (W3.heap.size + 1) [⟨#[40, 45, 32]⟩, ⟨txt.toArray⟩, ⟨#[41]⟩] [] _ (0, 0) hb1 b8.size (alloc_new _ _ _ (by simp [World.alloc, -World.alloc_eq])) (by omega) (by simp) (by simp [joined]; omega)).mono ?_)
  rintro e W4 ⟨rfl, hb2, b9⟩
  have hj : [] ++ joined [⟨#[40, 45, 32]⟩, ⟨txt.toArray⟩, ⟨#[41]⟩] = out := by have h : out = _ := hout; rw [h]; simp [joined]
  rw [hj] at hb2
  have hne : out ≠ [] := by have h : out = _ := hout; rw [h]; simp
  have b10 := below_up b6 (b8.trans b9) b6.size
  go_wp2_with (go_at_call 33; refine (string_k _ _ _ _ hb2 hne).mono ?_)
  rintro e W5 ⟨rfl, b11⟩
  have b12 := below_up b10 b11 b6.size
  go_wp2
  go_ret
  exact ⟨rfl, b12⟩
end
end Go.Proofs.YtkdkojnlimadnaaDoor
namespace Go.Proofs.YtkdkojnlimadnaaDoor
open Go Go.Vm Go.Shelf Go.Lib
open Go.RowKit (Below Hid)
set_option linter.unusedVariables false
/-- An integer's text. -/
def zText (z : Z) : List UInt8 := if (zh z).neg = true then [40, 45, 32] ++ decDigits (val (zh z).mag) ++ [41] else decDigits (val (zh z).mag)
structure ToPrint (a : List AV) (s : St) (z : Z) : Prop where
  args : ∃ n m, a = [.agg [n, m]] ∧ RZ s n m z
  len : z.mag.length ≤ 100
open Classical in
noncomputable def Print_B : List AV → St → R := fun a s => if h : ∃ z, ToPrint a s z then .ok (.str (zText h.choose)) s else .no
theorem rz_uniq {s : St} {n m : AV} {z y : Z} (h : RZ s n m z) (k : RZ s n m y) : z = y := by
  obtain ⟨a, b⟩ := z
  obtain ⟨c, d⟩ := y
  obtain ⟨h1, h2⟩ := h
  obtain ⟨k1, k2⟩ := k
  simp only at h1 h2 k1 k2
  rw [h1] at k1
  injection k1 with e
  rw [e, nats_uniq h2 k2]
theorem print_B_ok {s : St} {n m : AV} {z : Z} (h : RZ s n m z) (hl : z.mag.length ≤ 100) : Print_B [.agg [n, m]] s = .ok (.str (zText z)) s := by
  have hx : ∃ z, ToPrint [.agg [n, m]] s z := ⟨z, ⟨⟨n, m, rfl, h⟩, hl⟩⟩
  unfold Print_B
  rw [dif_pos hx]
  obtain ⟨n', m', e, h'⟩ := hx.choose_spec.args
  injection e with e _
  injection e with e
  injection e with e1 e2
  injection e2 with e2 _
  subst e1
  subst e2
  rw [rz_uniq h' h]
noncomputable abbrev T1 : Tel := ⟨Nat_B, noB⟩
/-- The same limbs, read again further on. -/
theorem nats_again {w W : World} {a : Option Addr} {l : List Nat} {cap : Nat} (hl : l.length ≤ 1000) (hcap : l.length ≤ cap) (hfm : (a = none ∧ cap = 0) ∨ ∃ g off sp, a = some ⟨g, off, sp⟩ ∧ (sp = none ∨ (l.length = 0 ∧ cap = 0 ∧ True)))
    (hmem : l ≠ [] → ∃ g off, a = some ⟨g, off, none⟩ ∧ g < w.heap.size ∧ ∀ i (hi : i < l.length), w.cell? ⟨g, off + i, none⟩ = some (.int .u32 (l[i] : Int))) (hb : Below w.heap.size w W) : ∃ v', Nats .empty v' l ∧ RV (E1 W) W v' (.slice a l.length cap) := by
  have hsz := hb.size
  by_cases h0 : l = []
  · subst h0
    rcases hfm with ⟨rfl, rfl⟩ | ⟨g, off, sp, rfl, hsp⟩
    · exact ⟨.nils, nats_nil _, .nils⟩
    · exact ⟨.ts [] 0 0 false, nats_ts [] (by simp) 0 false, .ts [] 0 0 cap false g off [] (fun h => absurd rfl h) rfl (fun j u hu => by simp at hu) (fun j c u hc hu => by simp at hu) (fun c hc => by simp at hc) (by simp) (by simp) (by simp) (hsp := hsp.imp id fun h => ⟨rfl, h.2.1, rfl⟩)⟩
  · obtain ⟨g, off, rfl, hg2, hcell⟩ := hmem h0
    refine ⟨_, nats_ts l (by omega) l.length false, ?_⟩
    refine .ts _ _ _ cap false g off (l.map fun n : Nat => Value.int .u32 (n : Int)) (fun _ => by show g < W.heap.size; omega) (by simp [cellsN]) (fun j u hu => ?_) (fun j c u hc hu => ?_) (by simp [cellsN]; intro a _; rfl) hcap (by omega) (by simp)
    · rw [List.getElem?_map] at hu
      obtain ⟨n, hn, rfl⟩ := Option.map_eq_some_iff.1 hu
      obtain ⟨hj, rfl⟩ := List.getElem?_eq_some_iff.1 hn
      rw [hb.cell (by exact hg2)]
      exact hcell j hj
    · rw [List.getElem?_map] at hu
      unfold cellsN at hc
      rw [List.getElem?_map] at hc
      obtain ⟨n, hn, rfl⟩ := Option.map_eq_some_iff.1 hu
      rw [hn] at hc
      cases hc
      exact .int _ _
theorem vh_is {l : List Nat} (h : natIs l = true) : vh l = val l := by unfold vh hd; rw [if_pos h]
theorem zh_is (z : Z) : zIs (zh z) = true := by unfold zh; split <;> simp_all [zIs, natIs_nil]
theorem zh_nat (z : Z) : natIs (zh z).mag = true := by have := zh_is z; unfold zIs at this; simp only [Bool.and_eq_true] at this; exact this.1
theorem zh_neg (z : Z) : (zh z).neg = true → (zh z).mag ≠ [] := by have := zh_is z; unfold zIs at this; simp only [Bool.and_eq_true] at this; intro h; rw [h] at this; simpa using this.2
theorem zsign_neg (z : Z) : zsign z < 0 ↔ (zh z).neg = true := by
  have h := zh_neg z
  unfold zsign
  by_cases h0 : (zh z).mag = []
  · rw [if_pos h0]
    exact ⟨fun h => by omega, fun h1 => absurd h0 (h h1)⟩
  · rw [if_neg h0]
    by_cases h1 : (zh z).neg = true
    · rw [if_pos h1]; exact ⟨fun _ => h1, fun _ => by omega⟩
    · rw [if_neg h1]; exact ⟨fun h => by omega, fun h => absurd h h1⟩
theorem print_sound1 [L : Lay] [Bare] (hL : L.tabs = tab10) : Sound1 F.digits_Print Print_B := by
  intro args s r s' h
  have ev : F.digits_Print.val = 11 := by kernel_rfl
  have hx : ∃ z, ToPrint args s z := by
    apply Classical.byContradiction
    intro hn
    unfold Print_B at h
    rw [dif_neg hn] at h
    exact R.noConfusion h
  obtain ⟨z, ⟨⟨n, m, rfl, hz⟩, hl⟩⟩ := hx
  rw [print_B_ok hz hl] at h
  obtain ⟨rfl, rfl⟩ := ok_inj h
  refine ⟨⟨Tryd.f11, by rw [ev]; exact Tryd.func11, by kernel_rfl, by decide⟩, fun E w vals rel hrl => ?_⟩
  obtain ⟨u, vs1, rfl, k1, hrl⟩ := hrl.cons_inv
  have e3 : vs1 = [] := List.eq_nil_of_length_eq_zero hrl.len
  subst e3
  rw [ev]
  have htab := tab_of hL rel.laid
  obtain ⟨us, rfl, hrow, hone⟩ := rv_agg k1
  obtain ⟨bv, us1, rfl, kb, hrow⟩ := hrow.cons_inv
  obtain ⟨sv, us2, rfl, km, hrow⟩ := hrow.cons_inv
  have e4 : us2 = [] := List.eq_nil_of_length_eq_zero hrow.len
  subst e4
  obtain ⟨rfl, hm⟩ := hz
  have e5 := rv_bool kb
  subst e5
  obtain ⟨a, cap, rfl, hcap, hfm, hmem⟩ := nats_model rel.h hm km
  have hcs : SoundCall Tryd.prog (@CA T1) := @ca_sound _ T1 hL (nat_sound1 hL) (no_sound1 _)
  have hlaid : ∀ W, Below w.heap.size w W → ∀ k p, (k, p) ∈ Lay.tabs → k < W.heap.size ∧ p W.heap[k]? := fun W hb k p hm => by
    have h1 := rel.h.seen k (rel.laid.tabs k p hm).1
    have h2 := hb.size
    exact ⟨by omega, by rw [hb.block k h1]; exact (rel.laid.tabs k p hm).2⟩
  have hA : ∀ W, Below w.heap.size w W → Calls Tryd.prog 30 #[.agg #[.bool z.neg, .slice a z.mag.length cap]] W fun e W' => ∃ b' u, e = .returned (.agg #[b', u]) ∧ Below W.heap.size W W' ∧ Calls Tryd.prog 13 #[u] W' fun e W'' => e = .returned (.string ⟨(decDigits (val (zh z).mag)).toArray⟩) ∧ Below W'.heap.size W' W'' := by
    intro W hb
    obtain ⟨v', hv', hrv⟩ := nats_again (w := w) (W := W) (by omega) hcap hfm hmem hb
    obtain ⟨r, hc, hr⟩ := @whole_Abs_ok T1 .empty (.bool z.neg) v' z room_empty (by show (0 : Nat) ≤ _; omega) (by omega) ⟨rfl, hv'⟩
    have hg : F.whole_Abs.val = 30 := by kernel_rfl
    have hg2 : F.digits_Nat.val = 13 := by kernel_rfl
    have hs := (hcs _ _ _ _ _ hc).2 (E1 W) W _ (rel_in (hlaid W hb)) (RL.cons (.agg _ [.bool z.neg, .slice a z.mag.length cap] rfl (fun j c u hc hu => by
      match j with
      | 0 => cases hc; cases hu; exact .bool _
      | 1 => cases hc; cases hu; exact hrv
      | j + 2 => simp at hc) (fun c hc => by
        simp at hc
        rcases hc with rfl | rfl
        · rfl
        · exact hv'.one)) (RL.nil _ _))
    rw [hg] at hs
    refine Calls.mono hs ?_
    rintro e W' ⟨E', v, rfl, q1, q2⟩
    obtain ⟨us, rfl, hrow, _⟩ := rv_agg q1
    obtain ⟨b', us1, rfl, kb', hrow⟩ := hrow.cons_inv
    obtain ⟨u, us2, rfl, ku, hrow⟩ := hrow.cons_inv
    have e6 : us2 = [] := List.eq_nil_of_length_eq_zero hrow.len
    subst e6
    refine ⟨b', u, rfl, below_of q2.ext, ?_⟩
    have hn := @told_ok T1 _ _ _ _ _ _ (@told_digits_Nat T1) (nat_B_ok (hr .empty) (zh_len hl))
    have hs2 := (hcs _ _ _ _ _ hn).2 E' W' _ q2.rel (RL.cons ku (RL.nil _ _))
    rw [hg2] at hs2
    refine Calls.mono hs2 ?_
    rintro e W'' ⟨E'', v, rfl, q3, q4⟩
    obtain ⟨x, rfl, hx⟩ := rv_str q3
    refine ⟨?_, below_of q4.ext⟩
    rw [vh_is (zh_nat z)] at hx
    rw [← hx]
  have hS : ∀ W, Below w.heap.size w W → Calls Tryd.prog 31 #[.agg #[.bool z.neg, .slice a z.mag.length cap]] W fun e W' => e = .returned (.int .i64 (zsign z)) ∧ Below W.heap.size W W' := by
    intro W hb
    obtain ⟨v', hv', hrv⟩ := nats_again (w := w) (W := W) (by omega) hcap hfm hmem hb
    have hc := @whole_Sign_ok T1 .empty (.bool z.neg) v' z room_empty (by show (0 : Nat) ≤ _; omega) ⟨rfl, hv'⟩
    have hg : F.whole_Sign.val = 31 := by kernel_rfl
    have hs := (hcs _ _ _ _ _ hc).2 (E1 W) W _ (rel_in (hlaid W hb)) (RL.cons (.agg _ [.bool z.neg, .slice a z.mag.length cap] rfl (fun j c u hc hu => by
      match j with
      | 0 => cases hc; cases hu; exact .bool _
      | 1 => cases hc; cases hu; exact hrv
      | j + 2 => simp at hc) (fun c hc => by
        simp at hc
        rcases hc with rfl | rfl
        · rfl
        · exact hv'.one)) (RL.nil _ _))
    rw [hg] at hs
    refine Calls.mono hs ?_
    rintro e W' ⟨E', v, rfl, q1, q2⟩
    have q3 := rv_int q1
    subst q3
    exact ⟨rfl, below_of q2.ext⟩
  have hlen : (decDigits (val (zh z).mag)).length ≤ 2000 := by
    by_cases h0 : (zh z).mag = []
    · rw [h0]; show (decDigits 0).length ≤ 2000; rw [dec_small (by omega)]; simp
    · have := dec_len_val (natIs_small (zh_nat z)) h0
      have := zh_len hl
      omega
  by_cases hneg : zsign z < 0
  · refine Calls.mono (print_neg w _ _ _ _ rfl rfl hA hS hneg hlen _ rfl) ?_
    rintro e w' ⟨rfl, hb⟩
    refine ⟨E, _, rfl, .str _ _ ?_, went_below rel hb⟩
    unfold zText
    rw [if_pos ((zsign_neg z).1 hneg)]
  · refine Calls.mono (print_pos w _ _ _ _ rfl rfl hA hS (by omega)) ?_
    rintro e w' ⟨rfl, hb⟩
    refine ⟨E, _, rfl, .str _ _ ?_, went_below rel hb⟩
    unfold zText
    rw [if_neg (fun h => hneg ((zsign_neg z).2 h))]
end Go.Proofs.YtkdkojnlimadnaaDoor
