/- The abstract machine is sound: appending. No condition. -/
import Derived.Test.YtjnejkganejdbaaVmO
namespace Go.Vm
set_option linter.unusedVariables false
variable {P : Program}
section
variable {E : Env} {w : World} {nt : Nat} {f : Fr AV} {a : Act} {s s' : St} {r : AV} {call : CallT} {n n' : Nat} {o : Oper} {x y z : Operand} {cx cy cz : CO}
/-- What is appended. -/
theorem srcOf_ok {sz : Nat} {tx : TypeId} (hk : (∃ e', P.underlying tx = some (.slice e')) ∨ P.underlying tx = some .string) (rh : RelH s.obj E w) {v : AV} {u : Value} (hv : RV E w v u) {k : Nat → List AV → R}
    (h : srcOf s sz v k = .ok r s') : ∃ (m : Nat) (new : List AV) (news : List Value), Src P sz tx u m news w ∧ RL E w new news ∧ (∀ c ∈ new, c.one = true) ∧ new.length = m * sz ∧ k m new = .ok r s' := by
  rcases onSl_ok h with ⟨e, hh⟩ | ⟨b, off, len, cap, ex, e, hh⟩ | ⟨cs, len, cap, ex, e, hh⟩ | ⟨hh, _⟩
  · subst e; cases hv
    exact ⟨0, [], [], ⟨hk, fun _ => rfl, run_firstCells_none w sz 0 0 0, run_firstCells_none w.drew sz 0 0 0, by simp, fun _ h => by cases h⟩, RL.nil _ _, fun c hc => (by cases hc), by simp, hh⟩
  · subst e
    obtain ⟨cs, hcs, hh⟩ := onCells_ok hh
    obtain ⟨hle, hh⟩ := br_ok hh
    obtain ⟨c, ty, us, H⟩ := rh.cells b cs hcs
    cases hv
    have hle' : off + len * sz ≤ cs.length := by have := Nat.le_of_ble_eq_true hle; rwa [ln_eq] at this
    rw [tk_eq, dr_eq] at hh
    have hrow := (H.row.drop off).take (len * sz)
    have hone : ∀ c ∈ (cs.drop off).take (len * sz), c.one = true := fun c hc => H.one c (List.mem_of_mem_drop (List.mem_of_mem_take hc))
    have hl : ((us.drop off).take (len * sz)).length = len * sz := by rw [hrow.len, List.length_take, List.length_drop]; omega
    have hcell : ∀ (j : Nat) (q : Value), ((us.drop off).take (len * sz))[j]? = some q → w.cell? ((⟨(E.φ b).block, (E.φ b).off + off, none⟩ : Addr).add j) = some q := fun j q hj => by
      rw [addr_add]
      rw [List.getElem?_take] at hj
      split at hj
      · rw [List.getElem?_drop] at hj; rw [Nat.add_assoc]; exact holds_cell H _ q hj
      · cases hj
    exact ⟨len, _, _, ⟨hk, fun _ => rfl, run_firstCells_some w sz len _ len _ _ hl hcell, run_firstCells_some w.drew sz len _ len _ _ hl (by simpa using hcell), hl, ones_of hrow hone⟩, hrow, hone, by rw [← hrow.len, hl], hh⟩
  · subst e
    obtain ⟨hle, hh⟩ := br_ok hh
    cases hv with | ts _ _ _ cap' _ g off us hI hl hc hr h1 hlen hcap hx =>
    have hle' : cs.length = len * sz := by have := Nat.eq_of_beq_eq_true hle; rwa [ln_eq] at this
    have hrow : RL E w cs us := ⟨hl, hr⟩
    have hl' : us.length = len * sz := by rw [hl, hle']
    have hcell : ∀ (j : Nat) (q : Value), us[j]? = some q → w.cell? ((⟨g, off, none⟩ : Addr).add j) = some q := fun j q hj => by rw [addr_add]; exact hc j q hj
    exact ⟨len, _, _, ⟨hk, fun _ => rfl, run_firstCells_some w sz len _ len _ _ hl' hcell, run_firstCells_some w.drew sz len _ len _ _ hl' (by simpa using hcell), hl', ones_of hrow h1⟩, hrow, h1, hle', hh⟩
  · obtain ⟨l, e, h2⟩ := onStr_ok hh
    subst e
    obtain ⟨hle, h3⟩ := br_ok h2
    have e1 : sz = 1 := Nat.eq_of_beq_eq_true hle
    subst e1
    obtain ⟨p, rfl, hp⟩ := rv_str hv
    have hln : ln l = p.size := by rw [ln_eq, size_data, hp]
    have hb := bytes_rl E w l
    rw [hln] at h3
    have hbc : Go.byteCells p = l.map fun c => Value.int .u8 (c.toNat : Int) := by rw [← hp]; rfl
    rw [← hbc] at hb
    exact ⟨p.size, _, _, ⟨hk, fun _ => rfl, firstCells_string p w, firstCells_string p w.drew, by rw [byteCells_length, Nat.mul_one], ones_of hb.1 hb.2⟩, hb.1, hb.2, by rw [← hb.1.len, byteCells_length, Nat.mul_one], h3⟩
theorem grown_ok {sz bytes m : Nat} {cs : List AV} (h : grown s sz bytes m cs = .ok r s') : m * bytes ≤ limit ∧ m ≤ limit ∧ s'.n.val = s.n.val + 1 ∧ (∀ c, s'.obj c = if c = s.n then .cells cs else s.obj c) ∧ r = .sl s.n 0 m m sz := by
  obtain ⟨h1, hh⟩ := br_ok h
  obtain ⟨h2, hh⟩ := br_ok hh
  obtain ⟨s1, hn, hs1, hh⟩ := alloc_ok hh
  obtain ⟨rfl, rfl⟩ := ok_inj hh
  exact ⟨Nat.le_of_ble_eq_true h1, Nat.le_of_ble_eq_true h2, hn, hs1, rfl⟩
/-- It grows. -/
theorem app_grow {t tx ty e : TypeId} {i : TypeInfo} {zv : Value} (ht : P.underlying t = some (.slice e)) (hi : P.info? e = some i) (hz : i.zero = some zv) (hpos : 0 < i.size) (hzs : zv.cells.size = i.size) {base : Option Addr} {sLen sCap : Nat} {old new : List AV} {olds news : List Value} {u : Value} {m : Nat}
    (hs : Src P i.size tx u m news w) (hnew : RL E w new news) (hnew1 : ∀ c ∈ new, c.one = true) (hold : RL E w old olds) (hold1 : ∀ c ∈ old, c.one = true) (holdl : olds.length = sLen * i.size)
    (hfirst : (Builtin.firstCells i.size sLen (.slice base sLen sCap)).run P w.drew = .ok olds.toArray w.drew) (hg : sCap < sLen + m) (rh : RelH s.obj E w) (hf : ¬ E.D s.n)
    (h : grown s i.size i.bytes (sLen + m) (old ++ new) = .ok r s') {md : Sem Next} (hrun : ∀ (v : Value) (w' : World), (Builtin.append_ #[t, tx] ty #[.slice base sLen sCap, u]).run P w = .ok v w' → md.run P w = .ok (.value v) w') :
    s'.n.val = s.n.val + 1 ∧ Out P md s.n.val (s.n.val + 1) s.obj E w r s'.obj := by
  obtain ⟨h1, h2, hn, hs1, rfl⟩ := grown_ok h
  have hlim : limit = 140737488355328 := rfl
  have hap := run_append_grow_src w t tx ty e i zv ht hi hz base sLen sCap olds hfirst u m news hs hg (by omega) (growslice_fits hg (by rw [hlim] at h1; exact h1))
  refine ⟨hn, Out.row (us := olds ++ news) (more := (Builtin.zeroCells zv.cells (grownCap w (sLen + m) sCap e - (sLen + m))).toList) (e := e) (hrun _ _ hap) rh hf hs1 ?_ rfl rfl rfl (hold.append hnew) (fun c hc => (List.mem_append.mp hc).elim (hold1 c) (hnew1 c)) (fun E' hle hD hφ => ?_)⟩
  · have : (olds ++ news).toArray ++ Builtin.zeroCells zv.cells (grownCap w (sLen + m) sCap e - (sLen + m)) = ((olds ++ news) ++ (Builtin.zeroCells zv.cells (grownCap w (sLen + m) sCap e - (sLen + m))).toList).toArray := by apply Array.ext'; simp
    rw [← this]; rfl
  · have hge := grownCap_ge w (sLen + m) sCap e
    have := RV.sl (E := E') (w := w.drew.alloc (.cells ((olds ++ news).toArray ++ Builtin.zeroCells zv.cells (grownCap w (sLen + m) sCap e - (sLen + m))) e)) s.n 0 (sLen + m) (sLen + m) (grownCap w (sLen + m) sCap e) i.size hD (Nat.le_refl _) hge
    rw [hφ] at this
    refine this (fun h0 => ?_) (fun _ => ⟨(olds ++ news).toArray ++ Builtin.zeroCells zv.cells (grownCap w (sLen + m) sCap e - (sLen + m)), e, (0, 0), by simp [World.alloc, World.drew, -World.alloc_eq, -World.drew_eq], ?_⟩)
    · omega
    · simp only [Array.size_append, List.size_toArray, List.length_append, size_zeroCells, hzs, holdl, hs.newsLen, ← Nat.add_mul]
      have : sLen + m + (grownCap w (sLen + m) sCap e - (sLen + m)) = grownCap w (sLen + m) sCap e := by omega
      rw [this]; omega
theorem run_append_room_vm {t tx ty e : TypeId} {i : TypeInfo} (ht : P.underlying t = some (.slice e)) (hi : P.info? e = some i) {b off sLen sCap : Nat} {u : Value} {m : Nat} {news : List Value} (hs : Src P i.size tx u m news w) (hroom : sLen + m ≤ sCap) {w' : World}
    (hst : (storeCells ⟨b, off + sLen * i.size, none⟩ news).run P w = .ok () w') : (Builtin.append_ #[t, tx] ty #[.slice (some ⟨b, off, none⟩) sLen sCap, u]).run P w = .ok (.slice (some ⟨b, off, none⟩) (sLen + m) sCap) w' := by
  rcases hs.kind with ⟨e', hk⟩ | hk <;> simp [Builtin.append_, run_underlying ht, run_underlying hk, sizeOf, typeInfo, hi, hs.len, hroom, hs.cells, Addr.add_lit, hst]
theorem run_append_none_vm {t tx ty e : TypeId} {i : TypeInfo} (ht : P.underlying t = some (.slice e)) (hi : P.info? e = some i) {base : Option Addr} {sLen sCap : Nat} {u : Value} {news : List Value} (hs : Src P i.size tx u 0 news w) (hroom : sLen ≤ sCap) :
    (Builtin.append_ #[t, tx] ty #[.slice base sLen sCap, u]).run P w = .ok (.slice base sLen sCap) w := by
  have hn : news = [] := List.eq_nil_of_length_eq_zero (by simpa using hs.newsLen)
  subst hn
  cases base with
  | none => rcases hs.kind with ⟨e', hk⟩ | hk <;> simp [Builtin.append_, run_underlying ht, run_underlying hk, sizeOf, typeInfo, hi, hs.len, hroom, hs.cells]
  | some ad => rcases hs.kind with ⟨e', hk⟩ | hk <;> simp [Builtin.append_, run_underlying ht, run_underlying hk, sizeOf, typeInfo, hi, hs.len, hroom, hs.cells, storeCells]
/-- There may be room that the state does not know of: what is written there is a block of its own. -/
theorem app_slack {b : Id} {cs l : List AV} {vs : List Value} {off k : Nat} {cells : Array Value} {te : TypeId} {us : List Value} (H : Holds E w b cs cells te us) (rh : RelH s.obj E w) (hb : s.obj b = .cells cs) (hf : ¬ E.D s.n)
    (hs' : ∀ c, s'.obj c = if c = s.n then .cells ((cs.drop off).take k ++ l) else if c = b then .dead else s.obj c) (hl : RL E w l vs) (h1 : ∀ c ∈ l, c.one = true) (hk : off + k ≤ cs.length) (hfit : (E.φ b).off + off + k + vs.length ≤ cells.size) :
    ∃ E' w', (storeCells ⟨(E.φ b).block, (E.φ b).off + off + k, none⟩ vs).run P w = .ok () w' ∧ Le E w E' w' ∧ RelH s'.obj E' w' ∧ ExtH s.n.val (s.n.val + 1) s.obj E w s'.obj E' w' ∧ E'.D s.n ∧ E'.φ s.n = ⟨(E.φ b).block, (E.φ b).off + off, none⟩ ∧ ∃ c', w'.heap[(E.φ b).block]? = some (.cells c' te (0, 0)) ∧ c'.size = cells.size := by
  have hne : s.obj b ≠ .dead := by rw [hb]; intro h; cases h
  have hbn : b ≠ s.n := fun h => hf (by rw [← h]; exact rh.old b hne)
  have hlen := H.row.len
  have hst := run_storeCells_at P (E.φ b).block ((E.φ b).off + off + k) te vs 0 cells w H.heap (by omega) (ones_of hl h1)
  simp only [Nat.add_zero] at hst
  generalize hc' : (cells.toList.take ((E.φ b).off + off + k) ++ vs ++ cells.toList.drop ((E.φ b).off + off + k + vs.length)).toArray = c' at hst
  have hcs : c' = (splice ((E.φ b).off + off + k) vs cells.toList).toArray := by rw [← hc', splice_eq _ _ _ (by have := Array.length_toList (xs := cells); omega)]
  have hcz : c'.size = cells.size := by rw [hcs]; simp [splice_length]
  let E' : Env := ⟨fun c => if c = s.n then ⟨(E.φ b).block, (E.φ b).off + off, none⟩ else E.φ c, E.I, fun c => E.D c ∨ c = s.n⟩
  have hφ : ∀ c, E.D c → E'.φ c = E.φ c := fun c hc => if_neg (fun h' : c = s.n => hf (by rw [← h']; exact hc))
  have hφn : E'.φ s.n = ⟨(E.φ b).block, (E.φ b).off + off, none⟩ := if_pos rfl
  have hle : Le E w E' (w.setRow (E.φ b).block c') := ⟨fun _ h => .inl h, hφ, fun _ h => h, fun k hk => setRow_other w _ k c' (fun he => rh.apart b hne (by rw [← he]; exact hk)), fun k c0 e0 fr0 hk => by
    by_cases hkb : k = (E.φ b).block
    · subst hkb
      rw [H.heap] at hk
      cases hk
      exact ⟨c', _, setRow_heap w _ _ c' _ _ H.heap, hcz⟩
    · exact ⟨c0, fr0, by rw [setRow_other w _ k c' hkb]; exact hk, rfl⟩⟩
  refine ⟨E', w.setRow (E.φ b).block c', hst, hle, rel_step rh hle s.n (.inr rfl) (fun ds hds => ?_) (fun es hes => ?_) (fun d hd hdd => ?_) ?_ (fun _ h => h) (by simp), ?_, .inr rfl, hφn, c', setRow_heap w _ _ c' _ _ H.heap, hcz⟩
  · rw [hs', if_pos rfl] at hds
    cases hds
    have hrow : RL E w ((cs.drop off).take k ++ l) ((us.drop off).take k ++ vs) := ((H.row.drop off).take k).append hl
    have hkl : ((us.drop off).take k).length = k := by rw [List.length_take, List.length_drop]; omega
    refine ⟨c', te, (us.drop off).take k ++ vs, by rw [hφn]; exact setRow_heap w _ _ c' _ _ H.heap, hrow.mono hle, fun j u hu => ?_, fun d hd => (List.mem_append.mp hd).elim (fun h => H.one d (List.mem_of_mem_drop (List.mem_of_mem_take h))) (h1 d)⟩
    rw [hφn]
    dsimp only
    rw [hcs, List.getElem?_toArray, splice_get]
    have hjl : j < k + vs.length := by
      have := (List.getElem?_eq_some_iff.mp hu).1
      rw [List.length_append, hkl] at this; exact this
    rw [if_pos (by have := Array.length_toList (xs := cells); omega)]
    by_cases hj : j < k
    · rw [List.getElem?_append_left (by rw [hkl]; exact hj), List.getElem?_take, if_pos hj, List.getElem?_drop] at hu
      rw [if_neg (by omega), Array.getElem?_toList, Nat.add_assoc]; exact H.at_ _ u hu
    · rw [List.getElem?_append_right (by rw [hkl]; omega), hkl] at hu
      rw [if_pos (by omega), ← hu]; congr 1; omega
  · rw [hs', if_pos rfl] at hes; cases hes
  · rw [hs', if_neg hd] at hdd
    by_cases hdb : d = b
    · rw [if_pos hdb] at hdd; exact absurd rfl hdd
    · rw [if_neg hdb] at hdd
      refine ⟨by rw [hs', if_neg hd, if_neg hdb], setRow_other w _ _ c' (fun he => rh.inj d b hdd hne hdb he), ?_⟩
      rw [hφn]
      exact fun he => rh.inj b d hne hdd (fun h => hdb h.symm) he
  · rw [hφn]; exact rh.apart b hne
  · refine ⟨fun _ h => .inl h, hφ, ?_, fun _ h => h, fun _ h => .inl h, rfl, rfl, rfl, by simp, fun q hq hqb => setRow_other w _ q c' (fun he => hqb b hne he.symm), hle.shape, fun d hd => ?_⟩
    · rintro c (hc | rfl)
      · exact .inl hc
      · exact .inr ⟨Nat.le_refl _, Nat.lt_succ_self _⟩
    · by_cases hdn : d = s.n
      · rw [hdn, hφn]; exact .inl ⟨b, hne, rfl⟩
      · rw [hs', if_neg hdn] at hd
        by_cases hdb : d = b
        · rw [if_pos hdb] at hd; exact absurd rfl hd
        · rw [if_neg hdb] at hd
          rw [hφ d (rh.old d hd)]; exact .inl ⟨d, hd, rfl⟩
end
end Go.Vm
