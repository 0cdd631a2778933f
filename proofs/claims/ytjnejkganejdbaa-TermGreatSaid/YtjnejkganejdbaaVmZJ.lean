/- The abstract machine: calls told beforehand, their arguments by what lies in memory. No condition. -/
import Derived.Test.YtjnejkganejdbaaVmZH
namespace Go.Vm
open Go.RowKit
set_option linter.unusedVariables false
variable {P : Program}
noncomputable def AO.row (o : AO) : List AV := AO.rec (fun cs => cs) (fun _ => []) [] o
/-- Does a value look as told? (told: a slice by what lies there; 'own': none of it in memory that nobody writes any more) -/
noncomputable def mt (s : St) (own : Bool) : AV → AV → Bool
  | .bool a, .bool b => a == b
  | .int j a, .int k b => keq j k && a == b
  | .str a, .str b => a == b
  | .nilp, .nilp | .nils, .nils | .nilm, .nilm | .nilf, .nilf | .nili, .nili => true
  | .tp l, .ptr b o => mtp l ((s.obj b).row.drop o)
  | .tp l, .tp m => !own && mtp l m
  | .ts l n c x, .sl b o k d y => !x && n == k && Nat.ble c n && mtp l ((s.obj b).row.drop o)
  | .ts l n c x, .ts m k d y => !own && !x && n == k && Nat.ble c n && mtp l m
  | .agg l, .agg m => l.length == m.length && mtp l m
  | .tup l, .tup m => mts l m
  | .ifc t a, .ifc u b => t == u && mt s own a b
  | _, _ => false
where
  mtp : List AV → List AV → Bool
    | [], _ => true
    | a :: l, b :: m => a.one && mt s own a b && mtp l m
    | _, _ => false
  mts : List AV → List AV → Bool
    | [], [] => true
    | a :: l, b :: m => mt s own a b && mts l m
    | _, _ => false
theorem row_cells {o : AO} {a : AV} {l : List AV} {k : Nat} (h : (o.row.drop k) = a :: l) : ∃ cs, o = .cells cs ∧ cs.drop k = a :: l := by
  cases o with
  | cells cs => exact ⟨cs, rfl, h⟩
  | map es => have h' : ([] : List AV).drop k = a :: l := h; simp at h'
  | dead => have h' : ([] : List AV).drop k = a :: l := h; simp at h'
section
variable {s : St} {E F : Env} {w : World} {own : Bool}
/-- What lies behind a prefix that looks as told. -/
theorem mtp_len {l m : List AV} (h : mt.mtp s own l m = true) : l.length ≤ m.length ∧ ∀ c ∈ l, c.one = true := by
  induction l generalizing m with
  | nil => exact ⟨by simp, fun c hc => by simp at hc⟩
  | cons a l ih =>
    cases m with
    | nil => simp [mt.mtp] at h
    | cons b m =>
      simp only [mt.mtp, Bool.and_eq_true] at h
      obtain ⟨h1, h2⟩ := ih h.2
      exact ⟨by simp; omega, fun c hc => by rcases List.mem_cons.mp hc with rfl | hc <;> first | exact h.1.1 | exact h2 c hc⟩
theorem mt_rv (hrel : RelH s.obj E w) (hD : ∀ b, s.obj b ≠ .dead → F.I (E.φ b).block) (hI : own = false → ∀ k, E.I k → F.I k) : ∀ (n : Nat),
    (∀ a b : AV, SizeOf.sizeOf a ≤ n → mt s own a b = true → ∀ v, RV E w b v → RV F w a v) ∧
    (∀ l m : List AV, SizeOf.sizeOf l ≤ n → mt.mtp s own l m = true → ∀ us, RL E w m us → RL F w l (us.take l.length)) ∧
    (∀ l m : List AV, SizeOf.sizeOf l ≤ n → mt.mts s own l m = true → ∀ us, RL E w m us → RL F w l us) := by
  intro n
  induction n with
  | zero =>
    refine ⟨fun a b h => ?_, fun l m h => ?_, fun l m h => ?_⟩
    · cases a <;> simp at h
    · cases l <;> simp at h
    · cases l <;> simp at h
  | succ n ih =>
    obtain ⟨iha, ihp, ihs⟩ := ih
    refine ⟨fun a b h hl v hv => ?_, fun l m h hl us hus => ?_, fun l m h hl us hus => ?_⟩
    · have cell : ∀ (l : List AV) (b : Id) (o : Nat), SizeOf.sizeOf l ≤ n → mt.mtp s own l ((s.obj b).row.drop o) = true → ∃ us, RL F w l us ∧ (l ≠ [] → F.I (E.φ b).block) ∧ ∀ (j : Nat) (u : Value), us[j]? = some u → w.cell? ⟨(E.φ b).block, (E.φ b).off + o + j, none⟩ = some u := by
        intro l b o hsz hm
        cases hq : (s.obj b).row.drop o with
        | nil =>
          rw [hq] at hm
          cases l with
          | nil => exact ⟨[], RL.nil _ _, fun hn => absurd rfl hn, fun j u hu => by simp at hu⟩
          | cons c l => simp [mt.mtp] at hm
        | cons c0 m0 =>
          obtain ⟨cs, hcs, hdr⟩ := row_cells hq
          obtain ⟨c, e, us, H⟩ := hrel.cells b cs hcs
          have hne : s.obj b ≠ .dead := by rw [hcs]; intro h'; cases h'
          rw [hq, ← hdr] at hm
          refine ⟨_, ihp l (cs.drop o) hsz hm (us.drop o) (H.row.drop o), fun _ => hD b hne, fun j u hu => ?_⟩
          rw [List.getElem?_take] at hu
          split at hu
          · rw [List.getElem?_drop] at hu
            rw [show (E.φ b).off + o + j = (E.φ b).off + (o + j) by omega]
            exact holds_cell H (o + j) u hu
          · cases hu
      cases a <;> cases b <;> simp only [mt, Bool.and_eq_true, beq_iff_eq, Bool.not_eq_true', Nat.ble_eq, Bool.false_eq_true] at hl
      case bool.bool => cases hv; rw [hl]; exact .bool _
      case int.int => cases hv; rw [(keq_iff _ _).mp hl.1, hl.2]; exact .int _ _
      case str.str => cases hv; rw [hl]; exact .str _ _ (by assumption)
      case nilp.nilp => cases hv; exact .nilp
      case tp.ptr l b o =>
        cases hv
        obtain ⟨us, g1, g2, g3⟩ := cell l b o (by simp at h; omega) hl
        exact .tp l _ _ us g2 g1.len g3 g1.each (mtp_len hl).2
      case tp.tp l m =>
        cases hv with | tp _ g off us q1 q2 q3 q4 q5 =>
        have g := ihp l m (by simp at h; omega) hl.2 us ⟨q2, q4⟩
        refine .tp l _ _ _ (fun hn => hI hl.1 _ (q1 (fun hm => ?_))) g.len (fun j u hu => ?_) g.each (mtp_len hl.2).2
        · subst hm; cases l with
          | nil => exact hn rfl
          | cons c l => exact absurd hl.2 (by simp [mt.mtp])
        · rw [List.getElem?_take] at hu
          split at hu
          · exact q3 j u hu
          · cases hu
      case nils.nils => cases hv; exact .nils
      case ts.sl l n' c x b o k d y =>
        cases hv with | sl _ _ _ _ cap' _ q1 q2 q3 q4 q5 =>
        obtain ⟨⟨⟨hx, hn⟩, hc⟩, hp⟩ := hl
        obtain ⟨us, g1, g2, g3⟩ := cell l b o (by simp at h; omega) hp
        subst hx; subst hn
        exact .ts l _ _ _ _ _ _ us g2 g1.len g3 g1.each (mtp_len hp).2 (by omega) (by omega) (fun hh => by cases hh)
      case ts.ts l n' c x m k d y =>
        cases hv with | ts _ _ _ cap' _ g off us q1 q2 q3 q4 q5 q6 q7 q8 =>
        obtain ⟨⟨⟨⟨ho, hx⟩, hn⟩, hc⟩, hp⟩ := hl
        subst hx; subst hn
        have g := ihp l m (by simp at h; omega) hp us ⟨q2, q4⟩
        refine .ts l _ _ _ _ _ _ _ (fun hn => hI ho _ (q1 (fun hm => ?_))) g.len (fun j u hu => ?_) g.each (mtp_len hp).2 q6 (by omega) (fun hh => by cases hh)
        · subst hm; cases l with
          | nil => exact hn rfl
          | cons c l => exact absurd hp (by simp [mt.mtp])
        · rw [List.getElem?_take] at hu
          split at hu
          · exact q3 j u hu
          · cases hu
      case nilm.nilm => cases hv; exact .nilm
      case nilf.nilf => cases hv; exact .nilf
      case nili.nili => cases hv; exact .nili
      case ifc.ifc => cases hv; rw [hl.1]; exact .ifc _ _ _ (iha _ _ (by simp at h; omega) hl.2 _ (by assumption))
      case agg.agg l m =>
        cases hv
        rename_i us q1 q2 q3
        have g := ihp l m (by simp at h; omega) hl.2 us ⟨q1, q2⟩
        have e : us.take l.length = us := List.take_of_length_le (by rw [q1, hl.1]; exact Nat.le_refl _)
        rw [e] at g
        exact .agg l us g.len g.each (mtp_len hl.2).2
      case tup.tup l m =>
        cases hv
        rename_i us q1 q2
        have g := ihs l m (by simp at h; omega) hl us ⟨q1, q2⟩
        exact .tup l us g.len g.each
    · cases l with
      | nil => simp; exact RL.nil _ _
      | cons a l =>
        cases m with
        | nil => simp [mt.mtp] at hl
        | cons b m =>
          simp only [mt.mtp, Bool.and_eq_true] at hl
          obtain ⟨u, us', rfl, h1, h2⟩ := RL.cons_inv hus
          simp only [List.length_cons, List.take_succ_cons]
          exact RL.cons (iha a b (by simp at h; omega) hl.1.2 u h1) (ihp l m (by simp at h; omega) hl.2 us' h2)
    · cases l with
      | nil =>
        cases m with
        | nil => exact ⟨by have := hus.len; simpa using this, fun j c u hc hu => by simp at hc⟩
        | cons b m => simp [mt.mts] at hl
      | cons a l =>
        cases m with
        | nil => simp [mt.mts] at hl
        | cons b m =>
          simp only [mt.mts, Bool.and_eq_true] at hl
          obtain ⟨u, us', rfl, h1, h2⟩ := RL.cons_inv hus
          exact RL.cons (iha a b (by simp at h; omega) hl.1 u h1) (ihs l m (by simp at h; omega) hl.2 us' h2)
end
/-- Calls that are told: what the arguments look as, and the answer. -/
noncomputable def picks (pk : Id → List AV → St → Option (List AV × AV)) (call : CallT) : CallT := fun g args s => Option.rec (call g args s) (fun e => .ok e.2 s) (pk g args s)
theorem RelH.live {o : Id → AO} {E : Env} {w : World} (h : RelH o E w) {b : Id} (hb : o b ≠ .dead) : (E.φ b).block < w.heap.size := h.block_lt hb
theorem picks_sound {pk : Id → List AV → St → Option (List AV × AV)} {call base : CallT} (hb : SoundCall P base) (hc : SoundCall P call)
    (h : ∀ g args s en, pk g args s = some en → mt.mts s false en.1 args = true ∧ ∃ r0 s', base g en.1 .empty = .ok r0 s' ∧ mt s' true en.2 r0 = true) : SoundCall P (picks pk call) := by
  intro g args s r s' hr
  cases hT : pk g args s with
  | none =>
    have e : picks pk call g args s = call g args s := by unfold picks; rw [hT]
    rw [e] at hr
    exact hc g args s r s' hr
  | some en =>
    have e : picks pk call g args s = .ok en.2 s := by unfold picks; rw [hT]
    rw [e] at hr
    obtain ⟨rfl, rfl⟩ := ok_inj hr
    obtain ⟨hm, r0, s1, h1, h2⟩ := h g args s en hT
    have hbg := hb g en.1 .empty r0 s1 h1
    refine ⟨hbg.1, fun E w vals rel hrl => ?_⟩
    have hdead : ∀ b, St.empty.obj b = .dead := empty_obj
    let F : Env := ⟨E.φ, fun k => E.I k ∨ ∃ b, s.obj b ≠ .dead ∧ (E.φ b).block = k, fun _ => False⟩
    have hF : RL F w en.1 vals := (mt_rv (F := F) (own := false) rel.h (fun b hb => .inr ⟨b, hb, rfl⟩) (fun _ k hk => .inl hk) (SizeOf.sizeOf en.1)).2.2 _ _ (Nat.le_refl _) hm vals hrl
    have hRF : Rel St.empty F w := ⟨fun b _ h => h, ⟨(fun b cs h => by rw [hdead] at h; cases h), (fun b es h => by rw [hdead] at h; cases h), fun b h => absurd (hdead b) h, fun b c h => absurd (hdead b) h, fun b h => absurd (hdead b) h,
      fun k hk => hk.elim (rel.h.seen k) (fun ⟨b, hb, e⟩ => by rw [← e]; exact rel.h.block_lt hb)⟩⟩
    refine Calls.mono (hbg.2 F w vals hRF hF) ?_
    rintro e w' ⟨E1, v, rfl, k1, k2⟩
    have hold : ∀ k, k < w.heap.size → w'.heap[k]? = w.heap[k]? := fun k hk => k2.ext.keep k hk (fun b hb => absurd (hdead b) hb)
    have hnew : ∀ b, s1.obj b ≠ .dead → w.heap.size ≤ (E1.φ b).block ∧ (E1.φ b).block < w'.heap.size := fun b hb => by
      refine ⟨?_, k2.rel.h.block_lt hb⟩
      rcases k2.ext.new b hb with ⟨c, hc, _⟩ | hge
      · exact absurd (hdead c) hc
      · exact hge
    let G : Env := ⟨E.φ, fun k => E.I k ∨ ∃ b, s1.obj b ≠ .dead ∧ (E1.φ b).block = k, E.D⟩
    have hle : Le E w G w' := ⟨fun _ h => h, fun _ _ => rfl, fun _ h => .inl h, fun k hk => hold k (rel.h.seen k hk), .of_old hold⟩
    have hv : RV G w' en.2 v := (mt_rv (F := G) (own := true) k2.rel.h (fun b hb => .inr ⟨b, hb, rfl⟩) (fun h => by cases h) (SizeOf.sizeOf en.2)).1 _ _ (Nat.le_refl _) h2 v k1
    refine ⟨G, v, rfl, hv, ⟨⟨rel.n, rel_keep rel.h hle hold k2.ext.size (fun k hk => hk.elim .inl (fun ⟨b, hb, e⟩ => .inr (by rw [← e]; exact hnew b hb)))⟩, Nat.le_refl _, ?_⟩⟩
    exact ⟨fun _ h => h, fun _ _ => rfl, fun _ h => .inl h, fun _ h => .inl h, fun k hk => hk.elim .inl (fun ⟨b, hb, e⟩ => .inr (.inl (by rw [← e]; exact (hnew b hb).1))), k2.ext.os, k2.ext.tape, k2.ext.output, k2.ext.size, fun k hk _ => hold k hk, .of_old hold, fun b hb => .inl ⟨b, hb, rfl⟩⟩
/-- A told answer, if the arguments look as told. -/
noncomputable def look (es : List (List AV × AV)) (args : List AV) (s : St) : Option (List AV × AV) := List.rec none (fun e _ ih => br (mt.mts s false e.1 args) (some e) ih) es
theorem look_some {s : St} {es : List (List AV × AV)} {args : List AV} {e : List AV × AV} (h : look es args s = some e) : e ∈ es ∧ mt.mts s false e.1 args = true := by
  induction es with
  | nil => cases h
  | cons x es ih =>
    have h' : br (mt.mts s false x.1 args) (some x) (look es args s) = some e := h
    cases hl : mt.mts s false x.1 args with
    | true => rw [hl, br_true] at h'; cases h'; exact ⟨List.mem_cons_self, hl⟩
    | false =>
      rw [hl, br_false] at h'
      obtain ⟨h1, h2⟩ := ih h'
      exact ⟨List.mem_cons_of_mem _ h1, h2⟩
/-- A table of calls that are told beforehand, their arguments by what lies in memory. -/
noncomputable def views (T : Tab (List (List AV × AV))) (call : CallT) : CallT := picks (fun g args s => look (g.get T) args s) call
noncomputable def sees (base : CallT) (g : Id) (e : List AV × AV) : Bool := (base g e.1 .empty).on false fun r s => mt s true e.2 r
theorem sees_ok {base : CallT} {g : Id} {e : List AV × AV} (h : sees base g e = true) : ∃ r0 s', base g e.1 .empty = .ok r0 s' ∧ mt s' true e.2 r0 = true := by
  unfold sees at h
  cases hq : base g e.1 .empty with
  | no => rw [hq] at h; cases h
  | ok r s => rw [hq] at h; exact ⟨r, s, rfl, h⟩
theorem views_sound {T : Tab (List (List AV × AV))} {call base : CallT} (hb : SoundCall P base) (hc : SoundCall P call)
    (h : ∀ g e, e ∈ g.get T → sees base g e = true) : SoundCall P (views T call) :=
  picks_sound hb hc fun g args s en hen => by
    obtain ⟨h1, h2⟩ := look_some hen
    exact ⟨h2, sees_ok (h g en h1)⟩
end Go.Vm
