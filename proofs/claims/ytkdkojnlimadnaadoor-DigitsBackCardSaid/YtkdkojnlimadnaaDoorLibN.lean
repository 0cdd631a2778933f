/- A natural number as a text. No condition. -/
import Derived.Test.YtkdkojnlimadnaaDoorLibK
import Derived.Test.YtkdkojnlimadnaaDoorLibD
import Derived.Test.YtkdkojnlimadnaaDoorLibC
import Derived.Test.YtkdkojnlimadnaaDoorLibB
namespace Go.Proofs.YtkdkojnlimadnaaDoor
open Go Go.Shelf Go.RowKit Go.Lib
set_option linter.unusedVariables false
theorem tab_below {w w' : World} (h : TabIs Tryd.prog w "internal/strconv.uint64pow10" .u64 pow10Tab) (hb : Below w.heap.size w w') : TabIs Tryd.prog w' "internal/strconv.uint64pow10" .u64 pow10Tab := by
  unfold TabIs World.var? at h ⊢
  rw [global10] at h ⊢
  have h2 : 2 < w.heap.size := by
    apply Decidable.byContradiction
    intro hn
    have : w.heap[2]? = none := Array.getElem?_eq_none (by omega)
    simp [this] at h
  show (match w'.heap[2]? with | some (.cells cs _ _) => some cs | _ => none) = _
  rw [hb.block 2 h2]
  exact h
theorem itoa_call (n : Nat) (hn : n < 1000000000) (w : World) (htab : TabIs Tryd.prog w "internal/strconv.uint64pow10" .u64 pow10Tab) : Calls Tryd.prog 36 #[.int .i64 n] w fun e w' => e = .returned (.string ⟨(decDigits n).toArray⟩) ∧ Below w.heap.size w w' := by
  refine (Any.strconv_Itoa Tryd.laysM171 n (by omega) (by omega) w htab).mono ?_
  rintro e w' ⟨rfl, k, os, rfl⟩
  have e : itoa (n : Int) = decDigits n := by unfold itoa; rw [if_neg (by omega)]; simp
  rw [e]
  exact ⟨rfl, below_grow w k os⟩
theorem repeat_any (s : ByteArray) (c : Nat) (w : World) (hc : c ≤ 9223372036854775807) (hlen : s.size * c ≤ 140737488355328) :
    Calls Tryd.prog 37 #[.string s, .int .i64 c] w fun e w' => e = .returned (.string ⟨(Lib.repeatL s.data.toList c).toArray⟩) ∧ Below w.heap.size w w' := Any.strings_Repeat Tryd.lays105 Tryd.Builder_Extra_105 s c w hc hlen
theorem repeat_call (n : Int) (h0 : 0 ≤ n) (hn : n ≤ 9) (w : World) : Calls Tryd.prog 37 #[.string ⟨#[48]⟩, .int .i64 n] w fun e w' => e = .returned (.string ⟨(repeatL [48] n.toNat).toArray⟩) ∧ Below w.heap.size w w' := by
  obtain ⟨k, rfl⟩ : ∃ k : Nat, n = k := ⟨n.toNat, by omega⟩
  have hs : (⟨#[48]⟩ : ByteArray).size = 1 := rfl
  have h1 := repeat_any ⟨#[48]⟩ k w (by omega) (by rw [hs]; omega)
  rw [Int.toNat_natCast]
  exact h1
theorem fresh_b (w : World) : IsBuilderF 56 5 w.heap.size w.heap.size (Lib.byteCells []) (w.alloc (.cells #[.pointer none, .slice none 0 0] 56)) := IsBuilderF.of (fresh_isBuilder 56 5 w)
theorem string_k (B b : Nat) (l : List UInt8) (w : World) (h : IsBuilderF 56 5 B b (Lib.byteCells l) w) (h0 : l ≠ []) : Calls Tryd.prog 33 #[.pointer (some ⟨b, 0, none⟩)] w fun e w' => e = .returned (.string ⟨l.toArray⟩) ∧ Below B w w' :=
  (Any.Builder_String_k lays169 Tryd.Builder_Extra_105 B b l w h h0).mono fun e w' h => ⟨h.1, h.2.2.1⟩
theorem isb_below {B b : Nat} {bs : List Value} {W W' : World} (h : IsBuilderF 56 5 B b bs W) (hb : Below W.heap.size W W') : IsBuilderF 56 5 B b bs W' := by
  have key : ∀ p, BuilderAtF 56 5 B b p bs W → BuilderAtF 56 5 B b p bs W' := by
    rintro p ⟨h1, v, h2, h3, h4⟩
    refine ⟨h1, v, by rw [hb.block b (Array.getElem?_eq_some_iff.1 h2).1]; exact h2, ⟨h3.1, ?_⟩, h4⟩
    rcases h3.2 with h5 | ⟨g, cap, cur, fz, e1, e2, e3, r⟩
    · exact .inl h5
    · exact .inr ⟨g, cap, cur, fz, e1, e2, by rw [hb.block g (Array.getElem?_eq_some_iff.1 e3).1]; exact e3, r⟩
  exact h.imp (key _) (key _)
theorem below_up {B C : Nat} {a b c : World} (h : Below B a b) (k : Below C b c) (hBC : B ≤ C) : Below B a c :=
  ⟨k.os.trans h.os, k.tape.trans h.tape, k.output.trans h.output, Nat.le_trans h.size k.size, fun i hi => (k.block i (by omega)).trans (h.block i hi)⟩
theorem dec_small_len {a : Nat} (h : a < 1000000000) : (decDigits a).length ≤ 9 := dec_len_le (by omega) (by omega)
theorem natIs_drop {l : List Nat} {k : Nat} (h : natIs l = true) : natIs (l.drop k) = true := by
  induction l generalizing k with
  | nil => simpa using h
  | cons a l ih =>
    cases k with
    | zero => simpa using h
    | succ k =>
      rw [natIs_cons] at h
      simp only [Bool.and_eq_true] at h
      exact ih h.2.1
set_option maxHeartbeats 1000000 in
set_option maxRecDepth 100000 in
theorem nat_walk (w : World) (htab : TabIs Tryd.prog w "internal/strconv.uint64pow10" .u64 pow10Tab) (g off cap : Nat) (l : List Nat) (hg : g < w.heap.size) (hl : l.length ≤ 1000) (h0 : l ≠ []) (hnat : natIs l = true)
    (hc : ∀ i (h : i < l.length), w.cell? ⟨g, off + i, none⟩ = some (.int .u32 (l[i] : Int)))
    (hIs : Calls Tryd.prog 35 #[.slice (some ⟨g, off, none⟩) l.length cap] w fun e w' => e = .returned (.bool (natIs l)) ∧ Below w.heap.size w w') :
    Calls Tryd.prog 13 #[.slice (some ⟨g, off, none⟩) l.length cap] w fun e w' => e = .returned (.string ⟨(decDigits (val l)).toArray⟩) ∧ Below w.heap.size w w' := by
  have hsm := natIs_small hnat
  obtain ⟨m, hm⟩ : ∃ m, l.length = m + 1 := ⟨l.length - 1, by cases l <;> simp_all⟩
  rw [hnat] at hIs
  rw [hm] at hIs hl ⊢
  have hl1 : (((m + 1 : Nat) : Int) == 0) = false := by simp; omega
  have hidx : (((m + 1 : Nat) : Int) - 1) = (m : Int) := by omega
  go_enter Tryd.func13, Tryd.ntmps13
  go_wp2_with (go_at_call 35; refine hIs.mono ?_)
  rintro e W1 ⟨rfl, b1⟩
  have b2 : Below W1.heap.size W1 (W1.alloc (.cells #[.pointer none, .slice none 0 0] 56)) := (Below.refl _ W1).alloc (Nat.le_refl _) _
  have hg1 := b1.size
  have hlm : l[m] < 1000000000 := hsm _ (List.getElem_mem _)
  have hcm : (W1.alloc (.cells #[.pointer none, .slice none 0 0] 56)).cell? ⟨g, off + m, none⟩ = some (.int .u32 (l[m] : Int)) := by
    rw [b2.cell (by show g < _; omega), b1.cell (by exact hg)]; exact hc m (by omega)
  have hzl : l.drop m = [l[m]] := by rw [List.drop_eq_getElem_cons (by omega), List.drop_of_length_le (by omega)]
  generalize l[m] = z at hcm hlm hzl
  have hw : wrap64 (z : Int) = (z : Int) := by unfold wrap64; omega
  have htab2 : TabIs Tryd.prog (W1.alloc (.cells #[.pointer none, .slice none 0 0] 56)) "internal/strconv.uint64pow10" .u64 pow10Tab := tab_below (tab_below htab b1) b2
  have hb0 := fresh_b W1
  go_wp2_with (go_at_call 36; refine (itoa_call z hlm _ htab2).mono ?_)
  rintro e W2 ⟨rfl, b3⟩
  have hb1 := (isb_below hb0 b3).alloc (.cells #[.string ⟨(decDigits z).toArray⟩] 9)
  have hs3 := b3.size
  have hs3' : W1.heap.size + 1 ≤ W2.heap.size := by simpa using hs3
  have b4 : Below W2.heap.size W2 (W2.alloc (.cells #[.string ⟨(decDigits z).toArray⟩] 9)) := (Below.refl _ _).alloc (Nat.le_refl _) _
  go_wp2_with (go_at_call 32; refine (put_k W1.heap.size W1.heap.size W2.heap.size [⟨(decDigits z).toArray⟩] [] _ (0, 0) hb1 (by have := b4.size; omega) (by simp [World.alloc, -World.alloc_eq]) (by omega) (by simp) (by have := dec_small_len hlm; simp [joined]; omega)).mono ?_)
  rintro e W3 ⟨rfl, hb2, b5⟩
  have b6 : Below W1.heap.size W1 W3 := (below_up (below_up b2 b3 (by simp)) b4 (by omega)).trans b5
  simp only [joined, List.append_nil, List.nil_append] at hb2
  go_wp2
  go_loopw [4] (fun i wr => ∃ (k : Nat) (x : Int), k ≤ m ∧ x = (k : Int) - 1 ∧ i = .int .i64 x ∧ IsBuilderF 56 5 W1.heap.size W1.heap.size (Lib.byteCells (decDigits (val (l.drop k)))) wr ∧ Below W1.heap.size W1 wr)
    (fun i _ => (RowKit.intOf i + 1).toNat)
  case atStart =>
    refine ⟨m, _, Nat.le_refl _, ?_, rfl, ?_, b6⟩
    · omega
    rw [hzl]
    simpa [val] using hb2
  case round =>
    clear hw hcm hlm hzl
    obtain ⟨k, x, hk, hx, rfl, hbr, hbel⟩ := hrel
    by_cases hk0 : k = 0
    · subst hk0
      obtain rfl : x = ((0 : Nat) : Int) - 1 := by omega
      clear hx
      have hne : decDigits (val l) ≠ [] := by have := dec_len_pos (val l); intro h; rw [h] at this; simp at this
      rw [List.drop_zero] at hbr
      go_wp2_with (go_at_call 33; refine (string_k _ _ _ _ hbr hne).mono ?_)
      rintro e W4 ⟨rfl, b7⟩
      go_wp2
      go_ret
      exact ⟨rfl, below_up (below_up b1 hbel hg1) b7 hg1⟩
    · obtain ⟨j, rfl⟩ : ∃ j, k = j + 1 := ⟨k - 1, by omega⟩
      have hj : j < l.length := by omega
      obtain rfl : x = (j : Int) := by omega
      clear hx
      have hcj : wr.cell? ⟨g, off + j, none⟩ = some (.int .u32 (l[j] : Int)) := by
        rw [hbel.cell (by show g < _; omega), b1.cell (by exact hg)]; exact hc j hj
      have hlj : l[j] < 1000000000 := hsm _ (List.getElem_mem _)
      have hstep0 := fun h => dec_step hj hlj h
      generalize l[j] = y at hcj hlj hstep0
      have hwj : wrap64 (y : Int) = (y : Int) := by unfold wrap64; omega
      have hdl := dec_small_len hlj
      obtain ⟨d, hd⟩ : ∃ d, decDigits y = d := ⟨_, rfl⟩
      have htr : TabIs Tryd.prog wr "internal/strconv.uint64pow10" .u64 pow10Tab := tab_below (tab_below htab b1) (below_up (Below.refl _ _) hbel (Nat.le_refl _))
      have cI := itoa_call y hlj wr htr
      rw [hd] at cI hdl hstep0
      clear hd
      go_wp2_with (go_at_call 36; refine cI.mono ?_)
      rintro e W4 ⟨rfl, b7⟩
      have hnn : (9 - ((d).length : Int)).toNat = 9 - (d).length := by omega
      have h9a : (0 : Int) ≤ 9 - ((d).length : Int) := by omega
      have h9b : (9 : Int) - ((d).length : Int) ≤ 9 := by omega
      go_wp2_with (go_at_call 37; refine (repeat_call _ h9a h9b _).mono ?_)
      rintro e W5 ⟨rfl, b8⟩
      rw [hnn]
      have hb4 := (isb_below (isb_below hbr b7) b8).alloc (.cells #[.string ⟨(repeatL [48] (9 - (d).length)).toArray⟩, .string ⟨(d).toArray⟩] 9)
      have hs7 := b7.size
      have hs8 := b8.size
      have hsr := hbel.size
      have b9 : Below W5.heap.size W5 (W5.alloc (.cells #[.string ⟨(repeatL [48] (9 - (d).length)).toArray⟩, .string ⟨(d).toArray⟩] 9)) := (Below.refl _ _).alloc (Nat.le_refl _) _
      have hlw : W1.heap.size < wr.heap.size := by
        rcases hbr with h | h
        · exact h.lt
        · exact h.lt
      have hvl : 0 < val (l.drop (j + 1)) := by
        rcases Nat.eq_zero_or_pos (val (l.drop (j + 1))) with h | h
        · have hn2 : natIs (l.drop (j + 1)) = true := natIs_drop hnat
          have := (val_zero hn2).1 h
          have h3 := congrArg List.length this
          simp at h3; omega
        · exact h
      have hstep := hstep0 hvl
      have hrep : (repeatL [48] (9 - (d).length)).length = 9 - (d).length := by rw [repeatL_length]; simp
      have hdv : (decDigits (val (l.drop (j + 1)))).length ≤ 9 * (l.length - (j + 1)) := by
        have h := dec_len_val (l := l.drop (j + 1)) (fun a ha => hsm a (List.mem_of_mem_drop ha)) (fun h => by have := congrArg List.length h; simp at this; omega)
        rwa [List.length_drop] at h
      go_wp2_with (go_at_call 32; refine (put_k W1.heap.size W1.heap.size W5.heap.size [⟨(repeatL [48] (9 - (d).length)).toArray⟩, ⟨(d).toArray⟩] _ _ (0, 0) hb4 (by have := b9.size; omega) (by simp [World.alloc, -World.alloc_eq]) (by omega) (by simp) (by simp [joined, hrep]; omega)).mono ?_)
      rintro e W6 ⟨rfl, hb5, b10⟩
      have b11 : Below W1.heap.size W1 W6 := ((below_up (below_up hbel b7 (by omega)) b8 (by omega)).trans (below_up (Below.refl _ _) b9 (by omega))).trans b10
      simp only [joined, List.append_nil] at hb5
      rw [← hstep] at hb5
      clear hstep hdv hrep hvl hb4 hbr hb0 hb1 hb2
      go_wp2
      go_roundw
      case rel => exact ⟨j, _, by omega, by omega, rfl, hb5, b11⟩
      case measure => simp [RowKit.intOf]
set_option maxRecDepth 100000 in
theorem nat_walk0 (w : World) (a : Option Addr) (n cap : Nat)
    (hIs : Calls Tryd.prog 35 #[.slice a n cap] w fun e w' => e = .returned (.bool false) ∧ Below w.heap.size w w') :
    Calls Tryd.prog 13 #[.slice a n cap] w fun e w' => e = .returned (.string ⟨#[48]⟩) ∧ Below w.heap.size w w' := by
  go_enter Tryd.func13, Tryd.ntmps13
  go_wp2_with (go_at_call 35; refine hIs.mono ?_)
  rintro e W1 ⟨rfl, b1⟩
  go_wp2
  go_ret
  exact ⟨rfl, b1⟩
set_option maxRecDepth 100000 in
theorem nat_walk00 (w : World) (a : Option Addr) (cap : Nat)
    (hIs : Calls Tryd.prog 35 #[.slice a 0 cap] w fun e w' => e = .returned (.bool true) ∧ Below w.heap.size w w') :
    Calls Tryd.prog 13 #[.slice a 0 cap] w fun e w' => e = .returned (.string ⟨#[48]⟩) ∧ Below w.heap.size w w' := by
  have hl1 : (((0 : Nat) : Int) == 0) = true := rfl
  go_enter Tryd.func13, Tryd.ntmps13
  go_wp2_with (go_at_call 35; refine hIs.mono ?_)
  rintro e W1 ⟨rfl, b1⟩
  go_wp2
  go_ret
  exact ⟨rfl, b1⟩
end Go.Proofs.YtkdkojnlimadnaaDoor
namespace Go.Proofs.YtkdkojnlimadnaaDoor
open Go Go.Vm Go.Shelf Go.Lib
open Go.RowKit (Below)
set_option linter.unusedVariables false
theorem follows : Tryd.prog.follows .mixedOrders = true := by kernel_rfl
theorem tab_of [L : Lay] (hL : L.tabs = tab10) {E : Env} {w : World} (h : Laid E w) : TabIs Tryd.prog w "internal/strconv.uint64pow10" .u64 pow10Tab := tab_is (E := E) fun k p hm => h.tabs k p (by show (k, p) ∈ L.tabs; rw [hL]; exact hm)
/-- The table is sound if what is told of texts is. -/
theorem ca_sound [L : Lay] [Tel] (hL : L.tabs = tab10) (hn : Sound1 F.digits_Nat Tel.nat) (hp : Sound1 F.digits_Print Tel.pr) : SoundCall Tryd.prog CA :=
  cc_sound (Vm.drawn_ok follows) (base_set atoi_sound (base_set repeat_sound (base_set (itoa_sound (tab_of hL)) (base_set cuts_sound (base_set cutp_sound (base_set hn (base_set hp base_rep)))))))
theorem no_sound1 [Lay] (g : Vm.Id) : Sound1 g noB := fun args s r s' h => R.noConfusion h
noncomputable abbrev T0 : Tel := ⟨noB, noB⟩
/-- Limbs, as they lie in memory. -/
theorem nats_model {s : St} {E : Env} {w : World} {v : AV} {u : Value} {l : List Nat} (rel : RelH s.obj E w) (h : Nats s v l) (k : RV E w v u) : ∃ a cap, u = .slice a l.length cap ∧ l.length ≤ cap ∧ ((a = none ∧ cap = 0) ∨ ∃ g off sp, a = some ⟨g, off, sp⟩ ∧ (sp = none ∨ (l.length = 0 ∧ cap = 0 ∧ True))) ∧ (l ≠ [] → ∃ g off, a = some ⟨g, off, none⟩ ∧ g < w.heap.size ∧ ∀ i (hi : i < l.length), w.cell? ⟨g, off + i, none⟩ = some (.int .u32 (l[i] : Int))) := by
  obtain ⟨hsl, hlen, hel⟩ := h
  have hne : ∀ {i : Nat}, i < l.length → l ≠ [] := fun {i} hi e => by rw [e] at hi; simp at hi
  cases hsl with
  | nils =>
    have h0 : l.length = 0 := hlen.symm
    cases k
    exact ⟨none, 0, by rw [h0], by omega, .inl ⟨rfl, rfl⟩, fun hn => absurd (List.eq_nil_of_length_eq_zero h0) hn⟩
  | ts cs len cap ex hm ho =>
    have hl : len = l.length := hlen
    subst hl
    cases k with
    | ts _ _ _ cap' _ g off us hI hul hc hr h1 hle hcap hx hsp =>
      refine ⟨_, cap', rfl, hle, .inr ⟨_, _, _, rfl, hsp.imp id fun h => ⟨h.1, h.2.1, trivial⟩⟩, fun hn => ?_⟩
      have h0 := hne (i := 0) (by cases l <;> simp_all)
      have hcs : cs ≠ [] := by
        intro e
        subst e
        obtain ⟨t, ht⟩ := hel 0 (by cases l <;> simp_all)
        simp [rowOf] at ht
        cases ht
      rcases hsp with rfl | ⟨_, _, e⟩
      · refine ⟨_, _, rfl, rel.seen _ (hI hcs), fun i hi => ?_⟩
        obtain ⟨t, ht⟩ := hel i hi
        have hrow : rowOf s (.ts cs l.length cap ex) = cs := rfl
        rw [hrow, Nat.mul_one] at ht
        have hci : cs[i]? = some (.int .u32 (l[i] : Int)) := by
          have := congrArg List.head? ht
          simpa [List.head?_drop] using this
        obtain ⟨u, hu, hru⟩ := (RL.mk (E := E) (w := w) hul hr).get hci
        have e4 := rv_int hru
        subst e4
        exact hc i _ hu
      · exact absurd e hcs
  | sl b o len cap ex cs hm hob hb hoo =>
    have hl : len = l.length := hlen
    subst hl
    cases k with
    | sl _ _ _ _ cap' _ hD hle hcc hx hs =>
      refine ⟨_, cap', rfl, by omega, .inr ⟨_, _, _, rfl, .inl rfl⟩, fun hn => ⟨_, _, rfl, ?_, fun i hi => ?_⟩⟩
      · exact rel.block_lt (by rw [hob]; intro h; cases h)
      · obtain ⟨t, ht⟩ := hel i hi
        have hrow : rowOf s (.sl b o l.length cap ex) = cs.drop o := by show (s.obj b).row.drop o = _; rw [hob]; rfl
        rw [hrow, Nat.mul_one, List.drop_drop] at ht
        obtain ⟨c, e, us, H⟩ := rel.cells b cs hob
        have hci : cs[o + i]? = some (.int .u32 (l[i] : Int)) := by
          have := congrArg List.head? ht
          simpa [List.head?_drop] using this
        obtain ⟨u, hu, hru⟩ := H.row.get hci
        have hcu := H.at_ _ _ hu
        have e4 := rv_int hru
        subst e4
        have : w.cell? ⟨(E.φ b).block, (E.φ b).off + o + i, none⟩ = c[(E.φ b).off + (o + i)]? := by
          simp [World.cell?, H.heap, Nat.add_assoc]
        rw [this]; exact hcu
/-- A natural whose text is asked for. -/
structure ToText (a : List AV) (s : St) (l : List Nat) : Prop where
  args : ∃ v, a = [v] ∧ Nats s v l
  len : l.length ≤ 100
open Classical in
noncomputable def Nat_B : List AV → St → R := fun a s => if h : ∃ l, ToText a s l then .ok (.str (decDigits (vh h.choose))) s else .no
theorem nats_uniq {s : St} {v : AV} {l m : List Nat} (h : Nats s v l) (k : Nats s v m) : l = m := by
  have hl : l.length = m.length := h.len.symm.trans k.len
  refine List.ext_getElem hl fun i h1 h2 => ?_
  obtain ⟨t, ht⟩ := h.el i h1
  obtain ⟨t', ht'⟩ := k.el i h2
  rw [ht] at ht'
  injection ht' with e _
  injection e with _ e
  omega
theorem nat_B_ok {s : St} {v : AV} {l : List Nat} (h : Nats s v l) (hl : l.length ≤ 100) : Nat_B [v] s = .ok (.str (decDigits (vh l))) s := by
  have hx : ∃ l, ToText [v] s l := ⟨l, ⟨⟨v, rfl, h⟩, hl⟩⟩
  unfold Nat_B
  rw [dif_pos hx]
  obtain ⟨v', e, h'⟩ := hx.choose_spec.args
  injection e with e _
  subst e
  rw [nats_uniq h' h]
theorem nat_sound1 [L : Lay] [Bare] (hL : L.tabs = tab10) : Sound1 F.digits_Nat Nat_B := by
  intro args s r s' h
  have ev : F.digits_Nat.val = 13 := by kernel_rfl
  have hx : ∃ l, ToText args s l := by
    apply Classical.byContradiction
    intro hn
    unfold Nat_B at h
    rw [dif_neg hn] at h
    exact R.noConfusion h
  obtain ⟨l, ⟨⟨v, rfl, hv⟩, hl⟩⟩ := hx
  rw [nat_B_ok hv hl] at h
  obtain ⟨rfl, rfl⟩ := ok_inj h
  refine ⟨⟨Tryd.f13, by rw [ev]; exact Tryd.func13, by kernel_rfl, by decide⟩, fun E w vals rel hrl => ?_⟩
  obtain ⟨u, vs1, rfl, k1, hrl⟩ := hrl.cons_inv
  have e3 : vs1 = [] := List.eq_nil_of_length_eq_zero hrl.len
  subst e3
  rw [ev]
  have htab := tab_of hL rel.laid
  obtain ⟨a, cap, rfl, hcap, hfm, hmem⟩ := nats_model rel.h hv k1
  -- nat.Is, from nothing
  have hIs : Calls Tryd.prog 35 #[.slice a l.length cap] w fun e w' => e = .returned (.bool (natIs l)) ∧ Below w.heap.size w w' := by
    obtain ⟨v', hv', hrv⟩ : ∃ v', Nats .empty v' l ∧ RV (E1 w) w v' (.slice a l.length cap) := by
      by_cases h0 : l = []
      · subst h0
        rcases hfm with ⟨rfl, rfl⟩ | ⟨g, off, sp, rfl, hsp⟩
        · exact ⟨.nils, nats_nil _, .nils⟩
        · exact ⟨.ts [] 0 0 false, nats_ts [] (by simp) 0 false, .ts [] 0 0 cap false g off [] (fun h => absurd rfl h) rfl (fun j u hu => by simp at hu) (fun j c u hc hu => by simp at hu) (fun c hc => by simp at hc) (by simp) (by simp) (by simp) (hsp := hsp.imp id fun h => ⟨rfl, h.2.1, rfl⟩)⟩
      · obtain ⟨g, off, rfl, hg2, hcell⟩ := hmem h0
        refine ⟨_, nats_ts l (by omega) l.length false, ?_⟩
        refine .ts _ _ _ cap false g off (l.map fun n : Nat => Value.int .u32 (n : Int)) (fun _ => hg2) (by simp [cellsN]) (fun j u hu => ?_) (fun j c u hc hu => ?_) (by simp [cellsN]; intro a _; rfl) hcap (by omega) (by simp)
        · rw [List.getElem?_map] at hu
          obtain ⟨n, hn, rfl⟩ := Option.map_eq_some_iff.1 hu
          obtain ⟨hj, rfl⟩ := List.getElem?_eq_some_iff.1 hn
          exact hcell j hj
        · rw [List.getElem?_map] at hu
          unfold cellsN at hc
          rw [List.getElem?_map] at hc
          obtain ⟨n, hn, rfl⟩ := Option.map_eq_some_iff.1 hu
          rw [hn] at hc
          cases hc
          exact .int _ _
    have hc := @natIs_ok T0 .empty v' l hv'
    have hrel : Rel St.empty (E1 w) w := rel_in fun k p hm => ⟨rel.h.seen k (rel.laid.tabs k p hm).1, (rel.laid.tabs k p hm).2⟩
    have hg : F.nat_Is.val = 35 := by kernel_rfl
    have hs := (@ca_sound _ T0 hL (no_sound1 _) (no_sound1 _) _ _ _ _ _ hc).2 (E1 w) w _ hrel (RL.cons hrv (RL.nil _ _))
    rw [hg] at hs
    refine Calls.mono hs ?_
    rintro e w' ⟨E', u, rfl, q1, q2⟩
    have q3 := rv_bool q1
    subst q3
    exact ⟨rfl, below_of q2.ext⟩
  by_cases h1 : natIs l = true ∧ l ≠ []
  · obtain ⟨g, off, rfl, hg2, hcell⟩ := hmem h1.2
    refine Calls.mono (nat_walk w htab g off cap l hg2 (by omega) h1.2 h1.1 hcell hIs) ?_
    rintro e w' ⟨rfl, hb⟩
    refine ⟨E, _, rfl, .str _ _ ?_, went_below rel hb⟩
    have : vh l = val l := by unfold vh hd; rw [if_pos h1.1]
    simp [this]
  · have h48 : Calls Tryd.prog 13 #[.slice a l.length cap] w fun e w' => e = .returned (.string ⟨#[48]⟩) ∧ Below w.heap.size w w' := by
      by_cases h3 : natIs l = true
      · have h4 : l = [] := by
          apply Classical.byContradiction
          exact fun h4 => h1 ⟨h3, h4⟩
        rw [h3] at hIs
        subst h4
        exact nat_walk00 w a cap hIs
      · rw [Bool.not_eq_true] at h3
        rw [h3] at hIs
        exact nat_walk0 w a _ cap hIs
    refine Calls.mono h48 ?_
    rintro e w' ⟨rfl, hb⟩
    refine ⟨E, _, rfl, .str _ _ ?_, went_below rel hb⟩
    have : vh l = 0 := by
      unfold vh hd
      by_cases h3 : natIs l = true
      · have h4 : l = [] := by
          apply Classical.byContradiction
          exact fun h4 => h1 ⟨h3, h4⟩
        subst h4; rfl
      · rw [if_neg h3]; rfl
    rw [this, dec_small (by omega)]
    rfl
end Go.Proofs.YtkdkojnlimadnaaDoor
