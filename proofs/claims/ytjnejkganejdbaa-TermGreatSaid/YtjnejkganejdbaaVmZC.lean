/- The abstract machine is sound: the statements whose order is open: one more write; all. No condition. -/
import Derived.Test.YtjnejkganejdbaaVmZB
import Derived.Orders
namespace Go.Vm
set_option linter.unusedVariables false
variable {P : Program}
section
variable {call : CallT} {nt : Nat} {ops : Array Oper} {l : List DR} {S : Nat → DS} {s : St} {E0 E : Env} {w0 w : World} {L : Nat → Prop} {m : Nat} {F : Fr AV} {O : Id → AO} {a : Act}
/-- One more: a write. -/
theorem Inv.step_mut (hsc : SoundCall P call) (I : Inv nt l S s E0 w0 L m F O E a w) (C : Chain call l S) (Op : Opn P nt ops l) {i : Nat} {d : DR} {o : Oper} (ho : ops[i]? = some o) (hd : l[i]? = some d) (hi : ¬ L i) (hL : ∀ (j : Nat) (d : DR), l[j]? = some d → L j → ∀ i, i < l.length → bit d.pre i = true → L i)
    (hpre : ∀ j, j < l.length → bit d.pre j = true → L j ∧ j < i) (hb0 : (S 0).b = s.n) (rel0 : Rel s E0 w0) (hm : isMut d (S i)) {K : Act → World → Prop} {Q : Exit → Act → World → Prop}
    (hK : ∀ m' F' O' E' a' w', Inv nt l S s E0 w0 (fun j => L j ∨ j = i) m' F' O' E' a' w' → K a' w') : if Region.wanted o (yielded ops a.tmps) = true then o.wp P a w K Q else K (a.put o.dst Go.undef) w := by
  obtain ⟨o', ho', hdi, hdst, hcop, hcg, hkind⟩ := Op.op i d hd
  rw [ho] at ho'; cases ho'
  have hlt : i < l.length := (List.getElem?_eq_some_iff.mp hd).1
  have hname := C.name i (by omega)
  rw [hb0] at hname
  have hnames := I.names Op hL hd hi (fun j h1 h2 => (hpre j h1 h2).1)
  have hgn : wanted d.cr.guard F = wanted d.cr.guard (S i).f := wanted_congr (fun t ⟨b, hb⟩ => hnames t (names_guard hb))
  have hslots : ∀ t ∈ d.cr.cop.slots, t.get F = t.get (S i).f := fun t ht => hnames t (names_slots ht)
  have hwe : Region.wanted o (yielded ops a.tmps) = d.want (S i) := (wanted_eq hcg I.rf).trans hgn
  have hs := C.step i d hd
  rcases hs.2 with ⟨hw, _⟩ | ⟨hw, v, hv, hkk⟩
  · rw [hm.2] at hw; cases hw
  rw [hm.1] at hkk
  obtain ⟨hall, hx, _, hps, _⟩ := hkk
  rw [hwe, hw, if_pos rfl]
  -- the writes done so far are those ahead of it
  have hmi : m ≤ i := by
    apply Decidable.byContradiction
    intro h
    exact hi ((I.cut i d hd hm).mpr (by omega))
  have hnone : ∀ j (e : DR), l[j]? = some e → m ≤ j → j < i → ¬ isMut e (S j) := by
    intro j e he h1 h2 h3
    have hmem := C.wrote he h3 h2 (by omega)
    have hb := allPre_mem hall (List.mem_map_of_mem (f := fun x : Wr => x.i) hmem)
    have hjl : j < l.length := (List.getElem?_eq_some_iff.mp he).1
    have := (I.cut j e he h3).mp (hpre j hjl hb).1
    omega
  obtain ⟨hh, hn⟩ := C.heap i hmi (by omega) hnone
  -- what it is told of
  let st : St := .mk (flush ((S i).ps.filter fun p => bit d.pre p.i) (S i).h) (S i).n
  have hst : ∀ b, st.obj b = b.get (flush ((S i).ps.filter fun p => bit d.pre p.i) (S i).h) := fun b => rfl
  have hpend : ∀ (j : Nat) (e : DR), j < i → Pending l S i j e → Pending l S m j e := fun j e _ hp => ⟨hp.1, hp.2.1, fun k q hq hqm h1 h2 => hp.2.2 k q hq hqm h1 (by omega)⟩
  have hback : ∀ (j : Nat) (e : DR), Pending l S m j e → Pending l S i j e := fun j e hp => ⟨hp.1, hp.2.1, fun k q hq hqm h1 h2 => by
    by_cases hk : k < m
    · exact hp.2.2 k q hq hqm h1 hk
    · exact absurd hqm (hnone k q hq (by omega) h2)⟩
  have hpart : ∀ b, st.obj b = .dead ∨ st.obj b = O b := by
    intro b
    rw [hst]
    rcases flush_get ((S i).ps.filter fun p => bit d.pre p.i) (S i).h b with ⟨p, hp, h1, h2⟩ | ⟨h1, h2⟩
    · rw [List.mem_filter] at hp
      obtain ⟨j, e, h3, h4, h5⟩ := (C.pend i (by omega) p).mp hp.1
      have hb : bit d.pre j = true := by have := hp.2; rwa [h5] at this
      have hLj := (hpre j (by omega) hb).1
      have := (I.pend j e hLj (hpend j e h3 h4)).1
      rw [h5] at h1 h2
      right
      rw [h2, ← h1]; exact this.symm
    · rw [h2, hh]
      exact I.part (S i).n b
  have relst : Rel st E w := by
    refine ⟨fun b hb hD => ?_, I.rh.kill hpart⟩
    have hb' : (S i).n.val ≤ b.val := hb
    rw [hn] at hb'
    have := I.nn
    rcases I.ids b hD with h | ⟨j, e, h1, h2, h3, h4⟩ | h
    · exact rel0.n b (by omega) h
    · have h5 := C.name j (by have := (List.getElem?_eq_some_iff.mp h1).1; omega)
      rw [hb0] at h5
      have := (List.getElem?_eq_some_iff.mp h1).1
      rw [h4] at hb'; omega
    · omega
  rw [← exop_congr hslots] at hx
  have hg := exop_good (call := call) hcop I.rf relst.h hx
  rw [← hkind, hm.1] at hg
  have hout := hg relst hsc
  classical
  refine hout.2 K Q (fun E' w' u hrel hrv hext => hK (i + 1) (putD d.cr.cd v F) (fun b => if O b ≠ .dead ∧ st.obj b = .dead then O b else (St.mk (S (i + 1)).h (S (i + 1)).n).obj b) E' (a.put o.dst u) w' ?_)
  have hnn : (S i).n.val ≤ (S (i + 1)).n.val := hout.1
  have hobj : ∀ b, (St.mk (S (i + 1)).h (S (i + 1)).n).obj b = b.get (S (i + 1)).h := fun b => rfl
  obtain ⟨g1, g2, g3⟩ := merge (o' := fun b => if O b ≠ .dead ∧ st.obj b = .dead then O b else (St.mk (S (i + 1)).h (S (i + 1)).n).obj b) I.rh hpart hrel.h hext (fun b h1 h2 => by
    show (if O b ≠ .dead ∧ st.obj b = .dead then _ else _) = _
    rw [if_pos ⟨h1, h2⟩]) (fun b hb => by
    show (if O b ≠ .dead ∧ st.obj b = .dead then _ else _) = _
    rw [if_neg (fun h => hb.elim h.1 (fun h2 => h2 h.2))])
  have hle := g2.le I.rh
  refine ⟨by omega, ?_, (I.rf.mono hle).put hdst hrv, I.frame_next C Op hd hi hL hv, g1, ?_, ?_, ?_, ?_, ?_⟩
  · intro j e he hme
    by_cases hji : j = i
    · subst hji; exact ⟨fun _ => by omega, fun _ => .inr rfl⟩
    · constructor
      · intro h
        have := (I.cut j e he hme).mp (h.resolve_right hji)
        omega
      · intro h
        refine .inl ((I.cut j e he hme).mpr ?_)
        apply Decidable.byContradiction
        intro h2
        exact hnone j e he (by omega) (by omega) hme
  · intro j e hj hp
    have hji : j ≠ i := fun h => by subst h; have := hp.1; rw [hd] at this; cases this; have := hp.2.1.1; rw [hm.1] at this; cases this
    have hLj := hj.resolve_right hji
    have hpm : Pending l S m j e := ⟨hp.1, hp.2.1, fun k q hq hqm h1 h2 => hp.2.2 k q hq hqm h1 (by omega)⟩
    obtain ⟨k1, k2, k3⟩ := I.pend j e hLj hpm
    have hjl : j < l.length := (List.getElem?_eq_some_iff.mp hp.1).1
    have hdead : st.obj (S j).b = .dead := by
      rw [hst]
      rcases flush_get ((S i).ps.filter fun p => bit d.pre p.i) (S i).h (S j).b with ⟨p, hpp, h1, h2⟩ | ⟨h1, h2⟩
      · exfalso
        rw [List.mem_filter] at hpp
        obtain ⟨j', e', h3, h4, h5⟩ := (C.pend i (by omega) p).mp hpp.1
        rw [h5] at h1
        have hjj := C.name_inj (by omega) (by omega) h1
        have hb : bit d.pre j' = true := by have := hpp.2; rwa [h5] at this
        rw [hjj] at hb
        have := hp.2.2 i d hd hm (hpre j hjl hb).2 (by omega)
        rw [hb] at this; cases this
      · rw [h2, hh]; exact k2
    have hne : O (S j).b ≠ .dead := by rw [k1]; exact k3
    refine ⟨?_, ?_, k3⟩
    · show (if O (S j).b ≠ .dead ∧ st.obj (S j).b = .dead then _ else _) = _
      rw [if_pos ⟨hne, hdead⟩]; exact k1
    · exact g3 _ hne hdead
  · intro b hb
    show (if O b ≠ .dead ∧ st.obj b = .dead then _ else _) = _
    refine if_neg ?_
    rintro ⟨h1, h2⟩
    by_cases hp : ∃ j e, L j ∧ Pending l S m j e ∧ b = (S j).b
    · obtain ⟨j, e, hLj, hpm, rfl⟩ := hp
      have hjl : j < l.length := (List.getElem?_eq_some_iff.mp hpm.1).1
      obtain ⟨k1, k2, k3⟩ := I.pend j e hLj hpm
      -- it is flushed by this write
      by_cases hb2 : bit d.pre j = true
      · have hjlt := (hpre j hjl hb2).2
        have hmem : (⟨j, (S j).b, made e (S j)⟩ : Pd) ∈ (S i).ps.filter fun p => bit d.pre p.i := by
          rw [List.mem_filter]
          exact ⟨(C.pend i (by omega) _).mpr ⟨j, e, hjlt, hback j e hpm, rfl⟩, hb2⟩
        rw [hst] at h2
        rcases flush_get ((S i).ps.filter fun p => bit d.pre p.i) (S i).h (S j).b with ⟨p, hpp, q1, q2⟩ | ⟨q1, _⟩
        · rw [List.mem_filter] at hpp
          obtain ⟨j', e', h3, h4, h5⟩ := (C.pend i (by omega) p).mp hpp.1
          rw [h5] at q1 q2
          have hjj := C.name_inj (by omega) (by omega) q1
          subst hjj
          have he : e' = e := by have := h4.1; rw [hpm.1] at this; exact (Option.some.inj this).symm
          subst he
          rw [q2] at h2
          exact k3 h2
        · exact q1 _ hmem rfl
      · refine hb j e (.inl hLj) ⟨hpm.1, hpm.2.1, fun k q hq hqm h3 h4 => ?_⟩ rfl
        by_cases hki : k = i
        · subst hki; rw [hd] at hq; cases hq
          cases hbb : bit d.pre j with
          | false => rfl
          | true => exact absurd hbb hb2
        · exact (hback j e hpm).2.2 k q hq hqm h3 (by omega)
    · have hO := I.rest b (fun j e h3 h4 h5 => hp ⟨j, e, h3, h4, h5⟩)
      rw [hst] at h2
      rcases flush_get ((S i).ps.filter fun p => bit d.pre p.i) (S i).h b with ⟨p, hpp, q1, q2⟩ | ⟨_, q2⟩
      · rw [List.mem_filter] at hpp
        obtain ⟨j', e', h3, h4, h5⟩ := (C.pend i (by omega) p).mp hpp.1
        have hb2 : bit d.pre j' = true := by have := hpp.2; rwa [h5] at this
        rw [h5] at q1
        exact hp ⟨j', e', (hpre j' (by omega) hb2).1, hpend j' e' h3 h4, q1.symm⟩
      · rw [q2, hh, ← hO] at h2; exact h1 h2
  · intro b hb
    rcases hext.ids b hb with h | h
    · rcases I.ids b h with h1 | ⟨j, e, h1, h2, h3, h4⟩ | h1
      · exact .inl h1
      · exact .inr (.inl ⟨j, e, h1, h2, .inl h3, h4⟩)
      · refine .inr (.inr ⟨h1.1, ?_⟩)
        rw [hn] at hnn; omega
    · have h' : (S i).n.val ≤ b.val ∧ b.val < (S (i + 1)).n.val := h
      have := I.nn
      rw [hn] at h'
      exact .inr (.inr ⟨by omega, h'.2⟩)
  · have := I.nn; rw [hn] at hnn; omega
  · have := I.nn
    have hb2 : ExtH (S i).n.val (S (i + 1)).n.val O E w _ E' w' := g2
    rw [hn] at hb2 hnn
    exact I.ext.trans hb2 (by omega) hnn
end
end Go.Vm
