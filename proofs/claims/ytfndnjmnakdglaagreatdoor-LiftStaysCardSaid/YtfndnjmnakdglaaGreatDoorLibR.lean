/- What a row reads of its inputs. No condition. -/
import Derived.Test.YtfndnjmnakdglaaGreatDoorLibA
import Derived.Test.YtfndnjmnakdglaaGreatDoorVmW
import Derived.ChangeArms
import Derived.ChangeOld
import Derived.ReadAgain
import Derived.SizedLaws
import Derived.DataReads
import Derived.Below
import Derived.ChangeReads
import Derived.Test.YtfndnjmnakdglaaGreatDoorProg
import Derived.Test.YtfndnjmnakdglaaGreatDoorRows
import Derived.Test.YtfndnjmnakdglaaGreatDoorLibF
import Derived.KernelRfl
import Derived.LaidLaws
import Derived.LaidHandle
import Derived.LaidMore
namespace Go.Vm
set_option linter.unusedVariables false
variable {H : Type} {enc : TypeId × Value → H} {P : Program} {w : World}
def E1 (w : World) : Env := ⟨fun _ => ⟨0, 0, none⟩, fun k => k < w.heap.size, fun _ => False⟩
theorem rel_in [Lay] [Bare] {w : World} (hw : ∀ k p, (k, p) ∈ Lay.tabs → k < w.heap.size ∧ p w.heap[k]?) : Rel St.empty (E1 w) w := by
  have hd : ∀ b, St.empty.obj b = .dead := empty_obj
  exact ⟨fun b _ h => h, ⟨(fun b cs h => by rw [hd] at h; cases h), (fun b es h => by rw [hd] at h; cases h), fun b h => absurd (hd b) h, fun b c h => absurd (hd b) h, fun b h => absurd (hd b) h, fun k h => h⟩, .of fun k p h => hw k p h⟩
theorem room_empty : Room St.empty := ⟨by show (0 : Nat) ≤ _; omega, fun b _ => empty_obj b⟩
structure Got (w : World) (k : Nat) {α : Type} (R : List AV → α → Prop) (cs : List Value) (x : α) (avs : List AV) : Prop where
  len : avs.length = k
  rl : RL (E1 w) w avs cs
  one : ∀ c ∈ avs, c.one = true
  ov : ∀ c ∈ avs, Ov St.empty.n.val c
  rep : ∀ rest, R (avs ++ rest) x
def sized (P : Program) (t : TypeId) (d : DataW H) : Prop := ∀ n ∈ d.weights P t, n ≤ reachBytes
theorem choose_list {β : Type} (Q : Nat → β → Prop) (n : Nat) (h : ∀ i, i < n → ∃ b, Q i b) : ∃ l : List β, l.length = n ∧ ∀ i (hi : i < l.length), Q i l[i] := by
  induction n with
  | zero => exact ⟨[], rfl, fun i hi => by simp at hi⟩
  | succ n ih =>
    obtain ⟨l, h1, h2⟩ := ih fun i hi => h i (by omega)
    obtain ⟨b, hb⟩ := h n (by omega)
    refine ⟨l ++ [b], by simp [h1], fun i hi => ?_⟩
    by_cases e : i < l.length
    · rw [List.getElem_append_left e]; exact h2 i e
    · have e2 : i = l.length := by simp at hi; omega
      subst e2
      rw [List.getElem_append_right (Nat.le_refl _)]; simp; rw [h1]; exact hb
section
variable {β γ : Type} (f : β → List γ) {k : Nat}
theorem flat_len (L : List β) (h : ∀ b ∈ L, (f b).length = k) : (L.flatMap f).length = L.length * k := by
  induction L with
  | nil => simp
  | cons b L ih =>
    rw [List.flatMap_cons, List.length_append, ih fun c hc => h c (List.mem_cons_of_mem _ hc), h b List.mem_cons_self, List.length_cons, Nat.add_mul]; omega
theorem flat_drop (L : List β) (h : ∀ b ∈ L, (f b).length = k) (i : Nat) (hi : i < L.length) : (L.flatMap f).drop (i * k) = f L[i] ++ (L.drop (i + 1)).flatMap f := by
  induction L generalizing i with
  | nil => simp at hi
  | cons b L ih =>
    have hb := h b List.mem_cons_self
    cases i with
    | zero => simp
    | succ i =>
      rw [List.flatMap_cons, Nat.add_mul, Nat.one_mul, List.drop_append, List.drop_of_length_le (by omega), List.nil_append, hb, Nat.add_sub_cancel]
      have := ih (fun c hc => h c (List.mem_cons_of_mem _ hc)) i (by simpa using hi)
      rw [this]; simp
theorem flat_get (hk : 0 < k) (L : List β) (h : ∀ b ∈ L, (f b).length = k) (j : Nat) (hj : j < L.length * k) : ∃ hi : j / k < L.length, (L.flatMap f)[j]? = (f L[j / k])[j % k]? := by
  have hi : j / k < L.length := Nat.div_lt_of_lt_mul (by rw [Nat.mul_comm]; exact hj)
  refine ⟨hi, ?_⟩
  have h1 := flat_drop f L h (j / k) hi
  have h2 : (L.flatMap f)[j]? = ((L.flatMap f).drop (j / k * k))[j % k]? := by
    rw [List.getElem?_drop]; congr 1; rw [Nat.mul_comm]; exact (Nat.div_add_mod j k).symm
  rw [h2, h1, List.getElem?_append_left]
  rw [h _ (List.getElem_mem hi)]; exact Nat.mod_lt _ hk
end
theorem cell_plain {a : Addr} {n : Nat} {u : Value} (h : w.cell? (a.add n) = some u) : w.cell? ⟨a.block, a.off + n, none⟩ = some u := by
  by_cases hn : n = 0
  · subst hn
    have e : a.add 0 = a := rfl
    rw [e] at h
    have hs : a.spot = none := by
      cases hs : a.spot with
      | none => rfl
      | some q =>
        exfalso
        unfold World.cell? at h
        rw [hs] at h
        split at h <;> simp at h
    obtain ⟨b, o, q⟩ := a
    simp only at hs
    subst hs; exact h
  · have e : a.add n = ⟨a.block, a.off + n, none⟩ := by unfold Addr.add; rw [if_neg hn]
    rw [e] at h; exact h
theorem spot_none {a : Addr} {u : Value} (h : w.cell? a = some u) : a.spot = none := by
  cases hs : a.spot with
  | none => rfl
  | some q =>
    exfalso
    unfold World.cell? at h
    rw [hs] at h
    split at h <;> simp at h
theorem add_add (a : Addr) (m n : Nat) : (a.add m).add n = a.add (m + n) := by
  unfold Addr.add
  by_cases h1 : m = 0
  · subst h1; rw [if_pos rfl, Nat.zero_add]
  · by_cases h2 : n = 0
    · subst h2; rw [if_pos rfl, Nat.add_zero, if_neg h1]
    · rw [if_neg h1, if_neg h2, if_neg (by omega)]; simp [Nat.add_assoc]
theorem weights_all_mem {e : TypeId} : ∀ {l : List (DataW H)} {d : DataW H}, d ∈ l → ∀ n ∈ d.weights P e, n ∈ DataW.weightsAll P e l
  | a :: l, d, h, n, hn => by
    rw [DataW.weightsAll, List.mem_append]
    rcases List.mem_cons.mp h with rfl | h
    · exact .inl hn
    · exact .inr (weights_all_mem h n hn)
theorem got_slice {α : Type} {R : List AV → α → Prop} {t e : TypeId} {k : Nat} (ht : P.underlying t = some (.slice e)) (hk : P.cellsOf e = k) (hk0 : 0 < k) (hb : 1 ≤ P.bytesOf e)
    {fuel : Nat} {cs : List Value} {x : DataW H × List MemPlace} (h : DataW.trod enc P w 0 (fun _ => true) true fuel t cs = some x) (hz : sized P t x.1)
    (hel : ∀ n, fuel = n + 1 → ∀ cs' y, DataW.trod enc P w 0 (fun _ => true) true n e cs' = some y → sized P e y.1 → ∃ a avs, Got w k R cs' a avs) :
    ∃ (u : Value) (v : AV) (l : List α), cs = [u] ∧ RV (E1 w) w v u ∧ SlR St.empty v k R l := by
  rcases DataW.trod_slice ht h with ⟨rfl, rfl⟩ | ⟨a, len, cap, elems, rest, n, hn, rfl, rfl, hb0, hlc, hcm, hlen, hes, hsp, _⟩
  · exact ⟨_, .nils, [], rfl, .nils, ⟨.nils, rfl, fun i hi => by simp at hi⟩⟩
  · rw [hk] at hes hsp
    have hw : ∀ q ∈ (elems.length + rest.length) * P.bytesOf e :: (DataW.weightsAll P e (elems.map (·.1)) ++ DataW.weightsAll P e (rest.map (·.1))), q ≤ reachBytes := by
      intro q hq
      apply hz
      simp only [DataW.weights, ht, List.length_map]
      exact hq
    have hl1 : elems.length + rest.length ≤ reachBytes := by
      have h1 := hw _ List.mem_cons_self
      have h2 := Nat.mul_le_mul (Nat.le_refl (elems.length + rest.length)) hb
      omega
    have hreach : reachBytes ≤ limit := by decide
    obtain ⟨L, hL, hQ⟩ := choose_list (fun i (q : List Value × α × List AV) => w.cells? 0 (a.add (i * k)) k = some q.1 ∧ Got w k R q.1 q.2.1 q.2.2) len fun i hi => by
      have h1 := hes i hi
      rw [List.getElem?_eq_getElem (by omega), Option.bind_eq_some_iff] at h1
      obtain ⟨cs', h2, h3⟩ := h1
      obtain ⟨a', avs, hg⟩ := hel n hn cs' _ h3 fun q hq => hw q (List.mem_cons_of_mem _ (List.mem_append_left _ (weights_all_mem (List.mem_map_of_mem (List.getElem_mem (by omega : i < elems.length))) q hq)))
      exact ⟨(cs', a', avs), h2, hg⟩
    have hmem : ∀ q ∈ L, q.2.2.length = k ∧ q.1.length = k := by
      intro q hq
      obtain ⟨i, hi, rfl⟩ := List.getElem_of_mem hq
      have h1 := (hQ i hi).2
      exact ⟨h1.len, by rw [h1.rl.len, h1.len]⟩
    have hla := flat_len (fun q : List Value × α × List AV => q.2.2) L fun q hq => (hmem q hq).1
    have hlu := flat_len (fun q : List Value × α × List AV => q.1) L fun q hq => (hmem q hq).2
    have hcell : ∀ (j : Nat) (u : Value), (L.flatMap fun q => q.1)[j]? = some u → w.cell? (a.add j) = some u := by
      intro j u hu
      have hj : j < L.length * k := by rw [← hlu]; exact (List.getElem?_eq_some_iff.mp hu).1
      obtain ⟨hi, h1⟩ := flat_get (fun q : List Value × α × List AV => q.1) hk0 L (fun q hq => (hmem q hq).2) j hj
      rw [h1] at hu
      have h2 := (World.cells?_some (hQ _ hi).1).2.2 (j % k) (Nat.mod_lt _ hk0)
      rw [hu, add_add, Nat.mul_comm, Nat.div_add_mod] at h2
      exact h2
    refine ⟨_, .ts (L.flatMap fun q => q.2.2) len len false, L.map (·.2.1), rfl, ?_, ?_⟩
    · have hspot : a.spot = none ∨ (len = 0 ∧ cap = 0 ∧ (L.flatMap fun q => q.2.2) = []) := by
        by_cases c1 : 0 < len
        · left
          have h1 := (World.cells?_some (hQ 0 (by omega)).1).2.2 0 hk0
          have h2 := (hQ 0 (by omega)).2
          have h3 : 0 < L[0].1.length := by rw [h2.rl.len, h2.len]; exact hk0
          rw [List.getElem?_eq_getElem h3] at h1
          have e0 : (a.add (0 * k)).add 0 = a := by rw [Nat.zero_mul]; rfl
          rw [e0] at h1
          exact spot_none h1
        · by_cases c2 : 0 < cap
          · left
            obtain ⟨h1, h2⟩ := hsp rfl
            have h3 := h2 0 (by omega)
            rw [List.getElem?_eq_getElem (by omega), Option.bind_eq_some_iff] at h3
            obtain ⟨cs', h4, h5⟩ := h3
            have h6 := (World.cells?_some h4).2.2 0 hk0
            have h7 : 0 < cs'.length := by rw [(World.cells?_some h4).2.1]; exact hk0
            rw [List.getElem?_eq_getElem h7] at h6
            have e1 : len = 0 := by omega
            subst e1
            have e0 : (a.add ((0 + 0) * k)).add 0 = a := by rw [Nat.zero_add, Nat.zero_mul]; rfl
            rw [e0] at h6
            exact spot_none h6
          · right
            have e1 : len = 0 := by omega
            subst e1
            have e2 : L = [] := List.eq_nil_of_length_eq_zero hL
            exact ⟨rfl, by omega, by rw [e2]; rfl⟩
      refine RV.ts (E := E1 w) (sp := a.spot) _ len len cap false a.block a.off (L.flatMap fun q => q.1) (fun hne => ?_) (by rw [hla, hlu]) (fun j u hu => cell_plain (hcell j u hu)) (fun j c u hc hu => ?_) (fun c hc => ?_) hlc hlc (fun h => by cases h) hspot
      · have : 0 < len := by
          rcases Nat.eq_zero_or_pos len with h0 | h0
          · exfalso
            have e2 : L = [] := List.eq_nil_of_length_eq_zero (by rw [hL, h0])
            rw [e2] at hne; exact hne rfl
          · exact h0
        have h1 := World.cells?_block (hQ 0 (by omega)).1 hk0
        have e0 : a.add (0 * k) = a := by rw [Nat.zero_mul]; rfl
        rw [e0] at h1; exact h1
      · have hj : j < L.length * k := by rw [← hlu]; exact (List.getElem?_eq_some_iff.mp hu).1
        obtain ⟨hi, h1⟩ := flat_get (fun q : List Value × α × List AV => q.1) hk0 L (fun q hq => (hmem q hq).2) j hj
        obtain ⟨_, h2⟩ := flat_get (fun q : List Value × α × List AV => q.2.2) hk0 L (fun q hq => (hmem q hq).1) j hj
        rw [h1] at hu
        rw [h2] at hc
        exact (hQ _ hi).2.rl.each _ c u hc hu
      · obtain ⟨q, hq, hc⟩ := List.mem_flatMap.mp hc
        obtain ⟨i, hi, rfl⟩ := List.getElem_of_mem hq
        exact (hQ i hi).2.one c hc
    · refine ⟨.ts _ _ _ _ (by omega) (fun c hc => ?_), by rw [List.length_map, hL]; rfl, fun i hi => ?_⟩
      · obtain ⟨q, hq, hc⟩ := List.mem_flatMap.mp hc
        obtain ⟨i, hi, rfl⟩ := List.getElem_of_mem hq
        exact (hQ i hi).2.ov c hc
      · rw [List.length_map] at hi
        show R ((L.flatMap fun q => q.2.2).drop (i * k)) _
        rw [flat_drop (fun q : List Value × α × List AV => q.2.2) L (fun q hq => (hmem q hq).1) i hi, List.getElem_map]
        exact (hQ i hi).2.rep _
open RowKit in
theorem trodAll_up {W W' : World} {base : Nat} {sp : Nat → Bool} {hd : Bool} (hB : Below W.heap.size W W') : ∀ {ts : List TypeId} {vs : List Value} {ds : List (DataW H)} {ps : List MemPlace}, DataW.TrodAll enc P W base sp hd ts vs ds ps → DataW.TrodAll enc P W' base sp hd ts vs ds ps
  | [], [], [], _, h => h
  | _ :: _, _ :: _, _ :: _, _, ⟨p, q, ⟨n, h1⟩, h2, e⟩ => ⟨p, q, ⟨n, DataW.trod_carry n _ _ _ h1 fun p hp => hB.same (DataW.trod_lt n _ _ _ h1 p hp)⟩, trodAll_up hB h2, e⟩
open RowKit in
theorem trodAll_back {W W' : World} (hl : laidOutB P = true) (hm : mapsRowed P = true) (hz : ((List.range P.types.size).all fun t => match P.underlying t with | some (.slice e) => decide (0 < P.cellsOf e) | _ => true) = true)
    (hB : Below W.heap.size W W') {ts : List TypeId} {vs : List Value} {ds : List (DataW H)} {ps : List MemPlace} (hT : ∀ t ∈ ts, t < P.types.size) (h : DataW.TrodAll enc P W 0 (fun _ => true) true ts vs ds ps) : DataW.TrodAll enc P W' 0 (fun b => decide (b < W.heap.size)) true ts vs ds ps :=
  (trodAll_up hB h).respare (kids_rows hl hm) (slices_full_of P hz) hT fun p hp => decide_eq_true (h.lt p hp)
end Go.Vm
namespace Go.Vm
set_option linter.unusedVariables false
set_option linter.unusedSectionVars false
structure Tys (P : Program) where
  (i b u s si su z t st g : TypeId)
  hi : P.underlying i = some (.int .i64)
  hb : P.underlying b = some .bool
  hu : P.underlying u = some (.int .u32)
  hs : P.underlying s = some .string
  hsi : P.underlying si = some (.slice i)
  hsu : P.underlying su = some (.slice u)
  hst : P.underlying st = some (.slice t)
  fz : Array Field
  hz : P.underlying z = some (.struct fz)
  kz : fz.toList.map (fun f => (f.type, f.offset)) = [(b, 0), (su, 1)]
  ft : Array Field
  ht : P.underlying t = some (.struct ft)
  kt : ft.toList.map (fun f => (f.type, f.offset)) = [(i, 0), (z, 1), (s, 3), (i, 4), (st, 5)]
  fg : Array Field
  hg : P.underlying g = some (.struct fg)
  kg : fg.toList.map (fun f => (f.type, f.offset)) = [(s, 0), (si, 1), (i, 2)]
  ci : P.cellsOf i = 1
  cb : P.cellsOf b = 1
  cu : P.cellsOf u = 1
  cs : P.cellsOf s = 1
  csi : P.cellsOf si = 1
  csu : P.cellsOf su = 1
  cst : P.cellsOf st = 1
  cz : P.cellsOf z = 2
  ct : P.cellsOf t = 6
  cg : P.cellsOf g = 3
  bi : 1 ≤ P.bytesOf i
  bu : 1 ≤ P.bytesOf u
  bt : 1 ≤ P.bytesOf t
section
variable {H : Type} {enc : TypeId × Value → H} {P : Program} {w : World} (Y : Tys P)
include Y
theorem got_int {n : Nat} {cs : List Value} {x : DataW H × List MemPlace} (h : DataW.trod enc P w 0 (fun _ => true) true n Y.i cs = some x) : ∃ m : Int, cs = [.int .i64 m] ∧ Got w 1 (RI .i64) cs m [.int .i64 m] := by
  obtain ⟨m, rfl, rfl, hw⟩ := DataW.trod_int Y.hi h
  exact ⟨m, rfl, rfl, RL.cons (.int _ _) (RL.nil _ _), by simp; rfl, by simp; exact ov_int _ _ _, fun rest => ⟨rest, rfl⟩⟩
theorem got_u32 {n : Nat} {cs : List Value} {x : DataW H × List MemPlace} (h : DataW.trod enc P w 0 (fun _ => true) true n Y.u cs = some x) : ∃ m : Nat, Got w 1 RN cs m [.int .u32 (m : Int)] := by
  obtain ⟨m, rfl, rfl, hw⟩ := DataW.trod_int Y.hu h
  have h0 : 0 ≤ m := by
    have h2 : IntKind.u32.min = 0 := rfl
    simp [Lit.wf] at hw; omega
  obtain ⟨k, rfl⟩ := Int.eq_ofNat_of_zero_le h0
  exact ⟨k, rfl, RL.cons (.int _ _) (RL.nil _ _), by simp; rfl, by simp; exact ov_int _ _ _, fun rest => ⟨rest, rfl⟩⟩
theorem got_ints {n : Nat} {cs : List Value} {x : DataW H × List MemPlace} (h : DataW.trod enc P w 0 (fun _ => true) true n Y.si cs = some x) (hz : sized P Y.si x.1) : ∃ (u : Value) (v : AV) (l : List Int), cs = [u] ∧ RV (E1 w) w v u ∧ Ints St.empty v l :=
  got_slice Y.hsi Y.ci (by omega) Y.bi h hz fun n _ cs' y hy _ => by
    obtain ⟨m, _, hg⟩ := got_int Y hy
    exact ⟨m, _, hg⟩
theorem got_nats {n : Nat} {cs : List Value} {x : DataW H × List MemPlace} (h : DataW.trod enc P w 0 (fun _ => true) true n Y.su cs = some x) (hz : sized P Y.su x.1) : ∃ (u : Value) (v : AV) (l : List Nat), cs = [u] ∧ RV (E1 w) w v u ∧ Nats St.empty v l :=
  got_slice Y.hsu Y.cu (by omega) Y.bu h hz fun n _ cs' y hy _ => by
    obtain ⟨m, hg⟩ := got_u32 Y hy
    exact ⟨m, _, hg⟩
theorem got_parts {t : TypeId} {fs : Array Field} {l : List (TypeId × Nat)} (ht : P.underlying t = some (.struct fs)) (hk : fs.toList.map (fun f => (f.type, f.offset)) = l) {n : Nat} {cs : List Value} {x : DataW H × List MemPlace} (h : DataW.trod enc P w 0 (fun _ => true) true n t cs = some x) (hz : sized P t x.1) :
    ∃ m, n = m + 1 ∧ cs.length = P.cellsOf t ∧ ∀ (j : Nat) (q : TypeId × Nat), l[j]? = some q → ∃ y, DataW.trod enc P w 0 (fun _ => true) true m q.1 ((cs.drop q.2).take (P.cellsOf q.1)) = some y ∧ sized P q.1 y.1 := by
  obtain ⟨xs, m, rfl, rfl, hl, hx, hf⟩ := DataW.trod_struct ht h
  refine ⟨m, rfl, hl, fun j q hq => ?_⟩
  rw [← hk, List.getElem?_map, Option.map_eq_some_iff] at hq
  obtain ⟨f, hf1, rfl⟩ := hq
  have hj : j < xs.length := by
    have := (List.getElem?_eq_some_iff.mp hf1).1
    rw [hx, ← Array.length_toList]; exact this
  have h1 := hf j f (by rw [← Array.getElem?_toList]; exact hf1)
  refine ⟨xs[j], by rw [h1, List.getElem?_eq_getElem hj], fun q hq => hz q ?_⟩
  simp only [DataW.weights, ht]
  exact DataW.weights_mem_each (j := j) (t := f.type) (d := xs[j].1) (by rw [List.getElem?_map, hf1]; rfl) (by rw [List.getElem?_map, List.getElem?_eq_getElem hj]; rfl) q hq
theorem got_z {n : Nat} {cs : List Value} {x : DataW H × List MemPlace} (h : DataW.trod enc P w 0 (fun _ => true) true n Y.z cs = some x) (hz : sized P Y.z x.1) : ∃ (a b : AV) (z : Z), RL (E1 w) w [a, b] cs ∧ RZ St.empty a b z := by
  obtain ⟨m, rfl, hl, hp⟩ := got_parts Y Y.hz Y.kz h hz
  rw [Y.cz] at hl
  obtain ⟨c0, c1, rfl⟩ : ∃ c0 c1, cs = [c0, c1] := by
    match cs, hl with
    | [c0, c1], _ => exact ⟨_, _, rfl⟩
  obtain ⟨y0, h0, _⟩ := hp 0 _ rfl
  obtain ⟨y1, h1, z1⟩ := hp 1 _ rfl
  simp only [Y.cb, Y.csu] at h0 h1
  obtain ⟨q, e0, _⟩ := DataW.trod_bool Y.hb h0
  obtain ⟨u, v, l, e1, hv, hn⟩ := got_nats Y h1 z1
  simp at e0 e1
  subst e0; subst e1
  exact ⟨.bool q, v, ⟨q, l⟩, RL.cons (.bool _) (RL.cons hv (RL.nil _ _)), ⟨rfl, hn⟩⟩
theorem got_term : ∀ (n : Nat) (cs : List Value) (x : DataW H × List MemPlace), DataW.trod enc P w 0 (fun _ => true) true n Y.t cs = some x → sized P Y.t x.1 → ∃ (t : T) (avs : List AV), Got w 6 (RT St.empty) cs t avs := by
  intro n
  induction n using Nat.strongRecOn with
  | ind n ih =>
    intro cs x h hz
    obtain ⟨m, rfl, hl, hp⟩ := got_parts Y Y.ht Y.kt h hz
    rw [Y.ct] at hl
    obtain ⟨c0, c1, c2, c3, c4, c5, rfl⟩ : ∃ c0 c1 c2 c3 c4 c5, cs = [c0, c1, c2, c3, c4, c5] := by
      match cs, hl with
      | [c0, c1, c2, c3, c4, c5], _ => exact ⟨_, _, _, _, _, _, rfl⟩
    obtain ⟨y0, h0, _⟩ := hp 0 _ rfl
    obtain ⟨y1, h1, z1⟩ := hp 1 _ rfl
    obtain ⟨y2, h2, _⟩ := hp 2 _ rfl
    obtain ⟨y3, h3, _⟩ := hp 3 _ rfl
    obtain ⟨y4, h4, z4⟩ := hp 4 _ rfl
    simp only [Y.ci, Y.cz, Y.cs, Y.cst] at h0 h1 h2 h3 h4
    obtain ⟨op, e0, g0⟩ := got_int Y h0
    obtain ⟨a, b, z, g1, r1⟩ := got_z Y h1 z1
    obtain ⟨nm, e2, _, _⟩ := DataW.trod_string Y.hs h2
    obtain ⟨srt, e3, g3⟩ := got_int Y h3
    obtain ⟨u, v, kids, e4, g4, r4⟩ := got_slice (R := RT St.empty) Y.hst Y.ct (by omega) Y.bt h4 z4 fun n' hn' cs' y hy hs => ih n' (by omega) cs' y hy hs
    simp at e0 e2 e3 e4
    subst e0; subst e2; subst e3; subst e4
    obtain ⟨u1, vs1, e5, k1, g1⟩ := g1.cons_inv
    obtain ⟨u2, vs2, e6, k2, g1⟩ := g1.cons_inv
    simp at e5
    obtain ⟨rfl, e5⟩ := e5
    subst e5
    simp at e6
    obtain ⟨rfl, e6⟩ := e6
    have hov := r1.ov
    have hone := r1.one
    refine ⟨.mk op z nm.data.toList srt kids, [.int .i64 op, a, b, .str nm.data.toList, .int .i64 srt, v], rfl, ?_, ?_, ?_, fun rest => ?_⟩
    · exact RL.cons (.int _ _) (RL.cons k1 (RL.cons k2 (RL.cons (.str _ _ rfl) (RL.cons (.int _ _) (RL.cons g4 (RL.nil _ _))))))
    · intro c hc
      simp only [List.mem_cons, List.not_mem_nil, or_false] at hc
      rcases hc with rfl | rfl | rfl | rfl | rfl | rfl
      · rfl
      · exact hone.1
      · exact hone.2
      · rfl
      · rfl
      · exact r4.one
    · intro c hc
      simp only [List.mem_cons, List.not_mem_nil, or_false] at hc
      rcases hc with rfl | rfl | rfl | rfl | rfl | rfl
      · exact ov_int _ _ _
      · exact hov.1
      · exact hov.2
      · exact ov_str _ _
      · exact ov_int _ _ _
      · exact r4.sl.ov
    · exact .mk op a b z _ srt v kids rest r1 r4.sl r4.len r4.el
end
theorem rt6_of {w : World} {cs : List Value} {t : T} {avs : List AV} (h : Got w 6 (RT St.empty) cs t avs) : RT6 St.empty avs t := by
  obtain ⟨ds, rest, h1, h2, h3⟩ := (h.rep []).t6
  rw [List.append_nil] at h1
  have hl := h.len
  have e : rest = [] := by
    have := congrArg List.length h1
    rw [List.length_append] at this
    exact List.eq_nil_of_length_eq_zero (by omega)
  rw [e, List.append_nil] at h1
  rw [h1]; exact h3
theorem rv_agg_of {E : Env} {w : World} {avs : List AV} {us : Array Value} (h : RL E w avs us.toList) (h1 : ∀ c ∈ avs, c.one = true) : RV E w (.agg avs) (.agg us) := by
  have := RV.agg avs us.toList h.len h.each h1
  exact this
end Go.Vm
namespace Go.Proofs.YtfndnjmnakdglaaGreatDoor
open Go Go.Vm
noncomputable def tys : Tys Tryz.prog where
  i := 3
  b := 4
  u := 61
  s := 9
  si := 63
  su := 22
  z := 24
  t := 27
  st := 25
  g := 65
  hi := Tryz.underlying3
  hb := Tryz.underlying4
  hu := Tryz.underlying61
  hs := Tryz.underlying9
  hsi := Tryz.underlying63
  hsu := Tryz.underlying22
  hst := Tryz.underlying25
  fz := _
  hz := Tryz.underlying24
  kz := rfl
  ft := _
  ht := Tryz.underlying27
  kt := rfl
  fg := _
  hg := Tryz.underlying65
  kg := rfl
  ci := by kernel_rfl
  cb := by kernel_rfl
  cu := by kernel_rfl
  cs := by kernel_rfl
  csi := by kernel_rfl
  csu := by kernel_rfl
  cst := by kernel_rfl
  cz := by kernel_rfl
  ct := by kernel_rfl
  cg := by kernel_rfl
  bi := by decide +kernel
  bu := by decide +kernel
  bt := by decide +kernel
open Lib in
theorem data_eq {H : Type} : (Rows.laid_internal_strconv_uint64pow10 : DataW H) = tabData .u64 pow10Tab := by kernel_rfl
open Lib in
theorem tab_laid {W : World} (h : laidMetH Tryz.prog Rows.liftStaysRow.laid W) : TabIs Tryz.prog W "internal/strconv.uint64pow10" .u64 pow10Tab := by
  rw [MakeChecks.laidMetH_plain _ _ _ (by kernel_rfl)] at h
  obtain ⟨ps, ⟨g0, t0, cs0, f0, p0, q0, hg0, ht0, hv0, hd0, ⟨g1, t1, cs1, f1, p1, q1, hg1, ht1, hv1, hd1, ⟨g2, t2, cs2, f2, p2, q2, hg2, ht2, hv2, hd2, _⟩, _⟩, _⟩, _, _⟩ := h
  obtain rfl := Option.some.inj (global10.symm.trans hg2)
  have ty : (Tryz.prog.globals[1]?).map (·.type) = some 211 := by kernel_rfl
  obtain rfl := Option.some.inj (ty.symm.trans ht2)
  unfold TabIs
  rw [hv2]
  have hd : DataW.trod _ Tryz.prog W 0 _ _ f2 211 cs2.toList = some (Rows.laid_internal_strconv_uint64pow10, p2) := hd2
  rw [data_eq] at hd
  have := cells_of_tab Tryz.underlying211 Tryz.underlying93 (by kernel_rfl) (by kernel_rfl) hd
  rw [← this]
open Lib in
theorem lay_of {W : World} (h : TabIs Tryz.prog W "internal/strconv.uint64pow10" .u64 pow10Tab) : ∀ k p, (k, p) ∈ tab10 → k < W.heap.size ∧ p W.heap[k]? := by
  intro k p hm
  obtain ⟨rfl, rfl⟩ := Prod.mk.inj (List.mem_singleton.1 hm)
  unfold TabIs World.var? at h
  rw [global10] at h
  have h2 : (match W.heap[1]? with | some (Obj.cells cs _ _) => some cs | _ => none) = some (pow10Tab.map fun z => Value.int .u64 z).toArray := h
  cases hq : W.heap[1]? with
  | none => rw [hq] at h2; cases h2
  | some o =>
    rw [hq] at h2
    cases o with
    | cells cs e fr =>
      have h3 : cs = _ := Option.some.inj h2
      exact ⟨(Array.getElem?_eq_some_iff.1 hq).1, e, fr, by rw [h3]⟩
    | _ => cases h2
end Go.Proofs.YtfndnjmnakdglaaGreatDoor
