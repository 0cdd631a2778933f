/- What a row reads of its inputs. No condition. -/
import Derived.Test.YtggeadnjikpjnaaLibA
import Derived.Test.YtggeadnjikpjnaaVmW
import Derived.ChangeArms
import Derived.ChangeOld
import Derived.ReadAgain
import Derived.SizedLaws
import Derived.DataReads
import Derived.Below
import Derived.ChangeReads
import Derived.Test.YtggeadnjikpjnaaLibE
import Derived.Test.YtggeadnjikpjnaaProg
import Derived.KernelRfl
namespace Go.Vm
set_option linter.unusedVariables false
variable {H : Type} {enc : TypeId × Value → H} {P : Program} {w : World}
/-- Nothing of one's own; whatever lies there stays. -/
def E1 (w : World) : Env := ⟨fun _ => ⟨0, 0, none⟩, fun k => k < w.heap.size, fun _ => False⟩
theorem rel_in [Lay] [Bare] {w : World} (hw : ∀ k p, (k, p) ∈ Lay.tabs → k < w.heap.size ∧ p w.heap[k]?) : Rel St.empty (E1 w) w := by
  have hd : ∀ b, St.empty.obj b = .dead := empty_obj
  exact ⟨fun b _ h => h, ⟨(fun b cs h => by rw [hd] at h; cases h), (fun b es h => by rw [hd] at h; cases h), fun b h => absurd (hd b) h, fun b c h => absurd (hd b) h, fun b h => absurd (hd b) h, fun k h => h⟩, .of fun k p h => hw k p h⟩
theorem room_empty : Room St.empty := ⟨by show (0 : Nat) ≤ _; omega, fun b _ => empty_obj b⟩
/-- Cells that are read, as the machine's. -/
structure Got (w : World) (k : Nat) {α : Type} (R : List AV → α → Prop) (cs : List Value) (x : α) (avs : List AV) : Prop where
  len : avs.length = k
  rl : RL (E1 w) w avs cs
  one : ∀ c ∈ avs, c.one = true
  ov : ∀ c ∈ avs, Ov St.empty.n.val c
  rep : ∀ rest, R (avs ++ rest) x
def sized (P : Program) (t : TypeId) (d : DataW H) : Prop := ∀ n ∈ d.weights P t, n ≤ reachBytes
theorem choose_list {β : Type} (Q : Nat → β → Prop) (n : Nat) (h : ∀ i, i < n → ∃ b, Q i b) : ∃ l : List β, l.length = n ∧ ∀ i (hi : i < l.length), Q i l[i] := by
  induction n with
  | zero => exact ⟨[], rfl, fun i hi => by simp at hi⟩
  | succ n ih =>
    obtain ⟨l, h1, h2⟩ := ih fun i hi => h i (by omega)
    obtain ⟨b, hb⟩ := h n (by omega)
    refine ⟨l ++ [b], by simp [h1], fun i hi => ?_⟩
    by_cases e : i < l.length
    · rw [List.getElem_append_left e]; exact h2 i e
    · have e2 : i = l.length := by simp at hi; omega
      subst e2
      rw [List.getElem_append_right (Nat.le_refl _)]; simp; rw [h1]; exact hb
section
variable {β γ : Type} (f : β → List γ) {k : Nat}
theorem flat_len (L : List β) (h : ∀ b ∈ L, (f b).length = k) : (L.flatMap f).length = L.length * k := by
  induction L with
  | nil => simp
  | cons b L ih =>
    rw [List.flatMap_cons, List.length_append, ih fun c hc => h c (List.mem_cons_of_mem _ hc), h b List.mem_cons_self, List.length_cons, Nat.add_mul]; omega
theorem flat_drop (L : List β) (h : ∀ b ∈ L, (f b).length = k) (i : Nat) (hi : i < L.length) : (L.flatMap f).drop (i * k) = f L[i] ++ (L.drop (i + 1)).flatMap f := by
  induction L generalizing i with
  | nil => simp at hi
  | cons b L ih =>
    have hb := h b List.mem_cons_self
    cases i with
    | zero => simp
    | succ i =>
      rw [List.flatMap_cons, Nat.add_mul, Nat.one_mul, List.drop_append, List.drop_of_length_le (by omega), List.nil_append, hb, Nat.add_sub_cancel]
      have := ih (fun c hc => h c (List.mem_cons_of_mem _ hc)) i (by simpa using hi)
      rw [this]; simp
theorem flat_get (hk : 0 < k) (L : List β) (h : ∀ b ∈ L, (f b).length = k) (j : Nat) (hj : j < L.length * k) : ∃ hi : j / k < L.length, (L.flatMap f)[j]? = (f L[j / k])[j % k]? := by
  have hi : j / k < L.length := Nat.div_lt_of_lt_mul (by rw [Nat.mul_comm]; exact hj)
  refine ⟨hi, ?_⟩
  have h1 := flat_drop f L h (j / k) hi
  have h2 : (L.flatMap f)[j]? = ((L.flatMap f).drop (j / k * k))[j % k]? := by
    rw [List.getElem?_drop]; congr 1; rw [Nat.mul_comm]; exact (Nat.div_add_mod j k).symm
  rw [h2, h1, List.getElem?_append_left]
  rw [h _ (List.getElem_mem hi)]; exact Nat.mod_lt _ hk
end
theorem cell_plain {a : Addr} {n : Nat} {u : Value} (h : w.cell? (a.add n) = some u) : w.cell? ⟨a.block, a.off + n, none⟩ = some u := by
  by_cases hn : n = 0
  · subst hn
    have e : a.add 0 = a := rfl
    rw [e] at h
    have hs : a.spot = none := by
      cases hs : a.spot with
      | none => rfl
      | some q =>
        exfalso
        unfold World.cell? at h
        rw [hs] at h
        split at h <;> simp at h
    obtain ⟨b, o, q⟩ := a
    simp only at hs
    subst hs; exact h
  · have e : a.add n = ⟨a.block, a.off + n, none⟩ := by unfold Addr.add; rw [if_neg hn]
    rw [e] at h; exact h
theorem spot_none {a : Addr} {u : Value} (h : w.cell? a = some u) : a.spot = none := by
  cases hs : a.spot with
  | none => rfl
  | some q =>
    exfalso
    unfold World.cell? at h
    rw [hs] at h
    split at h <;> simp at h
theorem add_add (a : Addr) (m n : Nat) : (a.add m).add n = a.add (m + n) := by
  unfold Addr.add
  by_cases h1 : m = 0
  · subst h1; rw [if_pos rfl, Nat.zero_add]
  · by_cases h2 : n = 0
    · subst h2; rw [if_pos rfl, Nat.add_zero, if_neg h1]
    · rw [if_neg h1, if_neg h2, if_neg (by omega)]; simp [Nat.add_assoc]
theorem weights_all_mem {e : TypeId} : ∀ {l : List (DataW H)} {d : DataW H}, d ∈ l → ∀ n ∈ d.weights P e, n ∈ DataW.weightsAll P e l
  | a :: l, d, h, n, hn => by
    rw [DataW.weightsAll, List.mem_append]
    rcases List.mem_cons.mp h with rfl | h
    · exact .inl hn
    · exact .inr (weights_all_mem h n hn)
theorem got_slice {α : Type} {R : List AV → α → Prop} {t e : TypeId} {k : Nat} (ht : P.underlying t = some (.slice e)) (hk : P.cellsOf e = k) (hk0 : 0 < k) (hb : 1 ≤ P.bytesOf e)
    {fuel : Nat} {cs : List Value} {x : DataW H × List MemPlace} (h : DataW.trod enc P w 0 (fun _ => true) true fuel t cs = some x) (hz : sized P t x.1)
    (hel : ∀ n, fuel = n + 1 → ∀ cs' y, DataW.trod enc P w 0 (fun _ => true) true n e cs' = some y → sized P e y.1 → ∃ a avs, Got w k R cs' a avs) :
    ∃ (u : Value) (v : AV) (l : List α), cs = [u] ∧ RV (E1 w) w v u ∧ SlR St.empty v k R l := by
  rcases DataW.trod_slice ht h with ⟨rfl, rfl⟩ | ⟨a, len, cap, elems, rest, n, hn, rfl, rfl, hb0, hlc, hcm, hlen, hes, hsp, _⟩
  · exact ⟨_, .nils, [], rfl, .nils, ⟨.nils, rfl, fun i hi => by simp at hi⟩⟩
  · rw [hk] at hes hsp
    have hw : ∀ q ∈ (elems.length + rest.length) * P.bytesOf e :: (DataW.weightsAll P e (elems.map (·.1)) ++ DataW.weightsAll P e (rest.map (·.1))), q ≤ reachBytes := by
      intro q hq
      apply hz
      simp only [DataW.weights, ht, List.length_map]
      exact hq
    have hl1 : elems.length + rest.length ≤ reachBytes := by
      have h1 := hw _ List.mem_cons_self
      have h2 := Nat.mul_le_mul (Nat.le_refl (elems.length + rest.length)) hb
      omega
    have hreach : reachBytes ≤ limit := by decide
    obtain ⟨L, hL, hQ⟩ := choose_list (fun i (q : List Value × α × List AV) => w.cells? 0 (a.add (i * k)) k = some q.1 ∧ Got w k R q.1 q.2.1 q.2.2) len fun i hi => by
      have h1 := hes i hi
      rw [List.getElem?_eq_getElem (by omega), Option.bind_eq_some_iff] at h1
      obtain ⟨cs', h2, h3⟩ := h1
      obtain ⟨a', avs, hg⟩ := hel n hn cs' _ h3 fun q hq => hw q (List.mem_cons_of_mem _ (List.mem_append_left _ (weights_all_mem (List.mem_map_of_mem (List.getElem_mem (by omega : i < elems.length))) q hq)))
      exact ⟨(cs', a', avs), h2, hg⟩
    have hmem : ∀ q ∈ L, q.2.2.length = k ∧ q.1.length = k := by
      intro q hq
      obtain ⟨i, hi, rfl⟩ := List.getElem_of_mem hq
      have h1 := (hQ i hi).2
      exact ⟨h1.len, by rw [h1.rl.len, h1.len]⟩
    have hla := flat_len (fun q : List Value × α × List AV => q.2.2) L fun q hq => (hmem q hq).1
    have hlu := flat_len (fun q : List Value × α × List AV => q.1) L fun q hq => (hmem q hq).2
    have hcell : ∀ (j : Nat) (u : Value), (L.flatMap fun q => q.1)[j]? = some u → w.cell? (a.add j) = some u := by
      intro j u hu
      have hj : j < L.length * k := by rw [← hlu]; exact (List.getElem?_eq_some_iff.mp hu).1
      obtain ⟨hi, h1⟩ := flat_get (fun q : List Value × α × List AV => q.1) hk0 L (fun q hq => (hmem q hq).2) j hj
      rw [h1] at hu
      have h2 := (World.cells?_some (hQ _ hi).1).2.2 (j % k) (Nat.mod_lt _ hk0)
      rw [hu, add_add, Nat.mul_comm, Nat.div_add_mod] at h2
      exact h2
    refine ⟨_, .ts (L.flatMap fun q => q.2.2) len len false, L.map (·.2.1), rfl, ?_, ?_⟩
    · have hspot : a.spot = none ∨ (len = 0 ∧ cap = 0 ∧ (L.flatMap fun q => q.2.2) = []) := by
        by_cases c1 : 0 < len
        · left
          have h1 := (World.cells?_some (hQ 0 (by omega)).1).2.2 0 hk0
          have h2 := (hQ 0 (by omega)).2
          have h3 : 0 < L[0].1.length := by rw [h2.rl.len, h2.len]; exact hk0
          rw [List.getElem?_eq_getElem h3] at h1
          have e0 : (a.add (0 * k)).add 0 = a := by rw [Nat.zero_mul]; rfl
          rw [e0] at h1
          exact spot_none h1
        · by_cases c2 : 0 < cap
          · left
            obtain ⟨h1, h2⟩ := hsp rfl
            have h3 := h2 0 (by omega)
            rw [List.getElem?_eq_getElem (by omega), Option.bind_eq_some_iff] at h3
            obtain ⟨cs', h4, h5⟩ := h3
            have h6 := (World.cells?_some h4).2.2 0 hk0
            have h7 : 0 < cs'.length := by rw [(World.cells?_some h4).2.1]; exact hk0
            rw [List.getElem?_eq_getElem h7] at h6
            have e1 : len = 0 := by omega
            subst e1
            have e0 : (a.add ((0 + 0) * k)).add 0 = a := by rw [Nat.zero_add, Nat.zero_mul]; rfl
            rw [e0] at h6
            exact spot_none h6
          · right
            have e1 : len = 0 := by omega
            subst e1
            have e2 : L = [] := List.eq_nil_of_length_eq_zero hL
            exact ⟨rfl, by omega, by rw [e2]; rfl⟩
      refine RV.ts (E := E1 w) (sp := a.spot) _ len len cap false a.block a.off (L.flatMap fun q => q.1) (fun hne => ?_) (by rw [hla, hlu]) (fun j u hu => cell_plain (hcell j u hu)) (fun j c u hc hu => ?_) (fun c hc => ?_) hlc hlc (fun h => by cases h) hspot
      · have : 0 < len := by
          rcases Nat.eq_zero_or_pos len with h0 | h0
          · exfalso
            have e2 : L = [] := List.eq_nil_of_length_eq_zero (by rw [hL, h0])
            rw [e2] at hne; exact hne rfl
          · exact h0
        have h1 := World.cells?_block (hQ 0 (by omega)).1 hk0
        have e0 : a.add (0 * k) = a := by rw [Nat.zero_mul]; rfl
        rw [e0] at h1; exact h1
      · have hj : j < L.length * k := by rw [← hlu]; exact (List.getElem?_eq_some_iff.mp hu).1
        obtain ⟨hi, h1⟩ := flat_get (fun q : List Value × α × List AV => q.1) hk0 L (fun q hq => (hmem q hq).2) j hj
        obtain ⟨_, h2⟩ := flat_get (fun q : List Value × α × List AV => q.2.2) hk0 L (fun q hq => (hmem q hq).1) j hj
        rw [h1] at hu
        rw [h2] at hc
        exact (hQ _ hi).2.rl.each _ c u hc hu
      · obtain ⟨q, hq, hc⟩ := List.mem_flatMap.mp hc
        obtain ⟨i, hi, rfl⟩ := List.getElem_of_mem hq
        exact (hQ i hi).2.one c hc
    · refine ⟨.ts _ _ _ _ (by omega) (fun c hc => ?_), by rw [List.length_map, hL]; rfl, fun i hi => ?_⟩
      · obtain ⟨q, hq, hc⟩ := List.mem_flatMap.mp hc
        obtain ⟨i, hi, rfl⟩ := List.getElem_of_mem hq
        exact (hQ i hi).2.ov c hc
      · rw [List.length_map] at hi
        show R ((L.flatMap fun q => q.2.2).drop (i * k)) _
        rw [flat_drop (fun q : List Value × α × List AV => q.2.2) L (fun q hq => (hmem q hq).1) i hi, List.getElem_map]
        exact (hQ i hi).2.rep _
open RowKit in
/-- Readings stay where only new blocks have come. -/
theorem trodAll_up {W W' : World} {base : Nat} {sp : Nat → Bool} {hd : Bool} (hB : Below W.heap.size W W') : ∀ {ts : List TypeId} {vs : List Value} {ds : List (DataW H)} {ps : List MemPlace}, DataW.TrodAll enc P W base sp hd ts vs ds ps → DataW.TrodAll enc P W' base sp hd ts vs ds ps
  | [], [], [], _, h => h
  | _ :: _, _ :: _, _ :: _, _, ⟨p, q, ⟨n, h1⟩, h2, e⟩ => ⟨p, q, ⟨n, DataW.trod_carry n _ _ _ h1 fun p hp => hB.same (DataW.trod_lt n _ _ _ h1 p hp)⟩, trodAll_up hB h2, e⟩
open RowKit in
/-- The inputs read as they did. -/
theorem trodAll_back {W W' : World} (hl : laidOutB P = true) (hm : mapsRowed P = true) (hz : ((List.range P.types.size).all fun t => match P.underlying t with | some (.slice e) => decide (0 < P.cellsOf e) | _ => true) = true)
    (hB : Below W.heap.size W W') {ts : List TypeId} {vs : List Value} {ds : List (DataW H)} {ps : List MemPlace} (hT : ∀ t ∈ ts, t < P.types.size) (h : DataW.TrodAll enc P W 0 (fun _ => true) true ts vs ds ps) : DataW.TrodAll enc P W' 0 (fun b => decide (b < W.heap.size)) true ts vs ds ps :=
  (trodAll_up hB h).respare (kids_rows hl hm) (slices_full_of P hz) hT fun p hp => decide_eq_true (h.lt p hp)
end Go.Vm
namespace Go.Vm
set_option linter.unusedVariables false
theorem bounds_u8 {a : Int} (h : (Lit.int IntKind.u8 a).wf = true) : 0 ≤ a ∧ a ≤ 255 := by
  have h1 : IntKind.u8.min = 0 := rfl
  have h2 : IntKind.u8.max = 255 := rfl
  simp [Lit.wf] at h; omega
section
variable {H : Type} {enc : TypeId × Value → H} {P : Program} {w : World}
/-- A number that fits. -/
def RI6 (r : List AV) (n : Int) : Prop := RI .i64 r n ∧ -9223372036854775808 ≤ n ∧ n ≤ 9223372036854775807
/-- A row of such. -/
def RIs (r : List AV) (c : List Int) : Prop := (∃ a t, r = a :: t ∧ Ints St.empty a c) ∧ I64 c
theorem got_i64 {i : TypeId} (hi : P.underlying i = some (.int .i64)) {n : Nat} {cs : List Value} {x : DataW H × List MemPlace} (h : DataW.trod enc P w 0 (fun _ => true) true n i cs = some x) : ∃ (m : Int) (avs : List AV), Got w 1 RI6 cs m avs := by
  obtain ⟨m, rfl, rfl, hw⟩ := DataW.trod_int hi h
  have hb : -9223372036854775808 ≤ m ∧ m ≤ 9223372036854775807 := by
    have h1 : IntKind.i64.min = -9223372036854775808 := rfl
    have h2 : IntKind.i64.max = 9223372036854775807 := rfl
    simp [Lit.wf] at hw; omega
  exact ⟨m, _, rfl, RL.cons (.int _ _) (RL.nil _ _), by simp; rfl, by simp; exact ov_int _ _ _, fun rest => ⟨⟨rest, rfl⟩, hb⟩⟩
theorem ints_of {v : AV} {l : List Int} (h : SlR St.empty v 1 RI6 l) : Ints St.empty v l ∧ I64 l := by
  refine ⟨h.ext (Ext.refl _) _ fun r n h => h.1, fun x hx => ?_⟩
  obtain ⟨i, hi, rfl⟩ := List.getElem_of_mem hx
  exact (h.el i hi).2
theorem got_ints6 {si i : TypeId} (hs : P.underlying si = some (.slice i)) (hi : P.underlying i = some (.int .i64)) (ci : P.cellsOf i = 1) (bi : 1 ≤ P.bytesOf i) {n : Nat} {cs : List Value} {x : DataW H × List MemPlace} (h : DataW.trod enc P w 0 (fun _ => true) true n si cs = some x) (hz : sized P si x.1) :
    ∃ (u : Value) (v : AV) (l : List Int), cs = [u] ∧ RV (E1 w) w v u ∧ SlR St.empty v 1 RI6 l :=
  got_slice hs ci (by omega) bi h hz fun n _ cs' y hy _ => got_i64 hi hy
theorem got_rows2 {sr si i : TypeId} (hr : P.underlying sr = some (.slice si)) (hs : P.underlying si = some (.slice i)) (hi : P.underlying i = some (.int .i64)) (cs : P.cellsOf si = 1) (bs : 1 ≤ P.bytesOf si) (ci : P.cellsOf i = 1) (bi : 1 ≤ P.bytesOf i)
    {n : Nat} {vs : List Value} {x : DataW H × List MemPlace} (h : DataW.trod enc P w 0 (fun _ => true) true n sr vs = some x) (hz : sized P sr x.1) :
    ∃ (u : Value) (v : AV) (l : List (List Int)), vs = [u] ∧ RV (E1 w) w v u ∧ Rows2 St.empty v l ∧ ∀ c ∈ l, I64 c := by
  obtain ⟨u, v, l, h1, h2, h3⟩ := got_slice (R := RIs) hr cs (by omega) bs h hz fun n _ cs' y hy hzy => by
    obtain ⟨u, v, l, rfl, hv, hsl⟩ := got_ints6 hs hi ci bi hy hzy
    obtain ⟨k1, k2⟩ := ints_of hsl
    exact ⟨l, [v], rfl, RL.cons hv (RL.nil _ _), by simp; exact k1.one, by simp; exact k1.sl.ov, fun rest => ⟨⟨v, rest, rfl, k1⟩, k2⟩⟩
  refine ⟨u, v, l, h1, h2, h3.ext (Ext.refl _) _ fun r c h => h.1, fun c hc => ?_⟩
  obtain ⟨j, hj, rfl⟩ := List.getElem_of_mem hc
  exact (h3.el j hj).2
end
end Go.Vm
namespace Go.Proofs.Ytggeadnjikpjnaa
open Go Go.Vm
theorem c3 : Try.prog.cellsOf 3 = 1 := by kernel_rfl
theorem c31 : Try.prog.cellsOf 31 = 1 := by kernel_rfl
theorem b3 : 1 ≤ Try.prog.bytesOf 3 := by decide +kernel
theorem b31 : 1 ≤ Try.prog.bytesOf 31 := by decide +kernel
end Go.Proofs.Ytggeadnjikpjnaa
