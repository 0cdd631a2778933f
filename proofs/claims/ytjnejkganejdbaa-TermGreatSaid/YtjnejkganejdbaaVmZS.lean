/- The abstract machine: calls that are told, whose answers may share the arguments' memory: nobody writes it any more. No condition. -/
import Derived.Test.YtjnejkganejdbaaVmZR
namespace Go.Vm
set_option linter.unusedVariables false
variable {P : Program}
/-- Of a state these blocks alone; .. all but these. -/
noncomputable def onlyK (K : List Id) (s : St) : St := .mk (List.rec (motive := fun _ => Tab AO) (.rep .dead) (fun b _ ih => b.qset (s.qobj b) ih) K) s.n
noncomputable def killK (K : List Id) (s : St) : St := .mk (List.rec (motive := fun _ => Tab AO) s.h (fun b _ ih => b.qset .dead ih) K) s.n
theorem onlyK_obj (K : List Id) (s : St) (b : Id) : (onlyK K s).obj b = .dead ∨ ((onlyK K s).obj b = s.obj b ∧ b ∈ K) := by
  show b.get (List.rec (motive := fun _ => Tab AO) (.rep .dead) (fun b _ ih => b.qset (s.qobj b) ih) K) = _ ∨ _ = _ ∧ _
  induction K with
  | nil => exact .inl (Id.get_rep b _)
  | cons c K ih =>
    have e : b.get (c.qset (s.qobj c) (List.rec (motive := fun _ => Tab AO) (.rep .dead) (fun b _ ih => b.qset (s.qobj b) ih) K)) = if b = c then s.qobj c else b.get (List.rec (motive := fun _ => Tab AO) (.rep .dead) (fun b _ ih => b.qset (s.qobj b) ih) K) := by rw [Id.qset_eq]; exact Id.get_set b c _ _
    by_cases h : b = c
    · rw [if_pos h] at e
      refine .inr ⟨?_, by rw [h]; exact List.mem_cons_self⟩
      exact e.trans (by rw [St.qobj_eq, h])
    · rw [if_neg h] at e
      rcases ih with h1 | ⟨h1, h2⟩
      · exact .inl (e.trans h1)
      · exact .inr ⟨e.trans h1, List.mem_cons_of_mem _ h2⟩
theorem killK_obj (K : List Id) (s : St) (b : Id) : (b ∈ K ∧ (killK K s).obj b = .dead) ∨ (b ∉ K ∧ (killK K s).obj b = s.obj b) := by
  show _ ∧ b.get (List.rec (motive := fun _ => Tab AO) s.h (fun b _ ih => b.qset .dead ih) K) = _ ∨ _ ∧ b.get (List.rec (motive := fun _ => Tab AO) s.h (fun b _ ih => b.qset .dead ih) K) = _
  induction K with
  | nil => exact .inr ⟨by simp, rfl⟩
  | cons c K ih =>
    have e : b.get (c.qset .dead (List.rec (motive := fun _ => Tab AO) s.h (fun b _ ih => b.qset .dead ih) K)) = if b = c then .dead else b.get (List.rec (motive := fun _ => Tab AO) s.h (fun b _ ih => b.qset .dead ih) K) := by rw [Id.qset_eq]; exact Id.get_set b c _ _
    by_cases h : b = c
    · rw [if_pos h] at e
      exact .inl ⟨by rw [h]; exact List.mem_cons_self, e⟩
    · rw [if_neg h] at e
      rcases ih with ⟨h1, h2⟩ | ⟨h1, h2⟩
      · exact .inl ⟨List.mem_cons_of_mem _ h1, e.trans h2⟩
      · exact .inr ⟨fun hm => (List.mem_cons.mp hm).elim h h1, e.trans h2⟩
/-- What is told of a call from nothing: its answer may lie in what came in. -/
def SeenF (P : Program) (g : Nat) (args : List AV) (ret : AV) : Prop :=
  ∀ F w vals, Rel St.empty F w → RL F w args vals → Calls P g vals.toArray w fun e w' => ∃ r s' E' v, mt s' false ret r = true ∧ e = .returned v ∧ RV E' w' r v ∧ Went .empty F w s' E' w'
noncomputable def picksF (pk : Id → List AV → St → Option (List Id × List AV × AV)) (call : CallT) : CallT := fun g args s => Option.rec (call g args s) (fun e => .ok e.2.2 (killK e.1 s)) (pk g args s)
theorem seenF_sound {pk : Id → List AV → St → Option (List Id × List AV × AV)} {call : CallT} (hc : SoundCall P call)
    (h : ∀ g args s en, pk g args s = some en → mt.mts (onlyK en.1 s) false en.2.1 args = true ∧ Has P g.val ∧ SeenF P g.val en.2.1 en.2.2) : SoundCall P (picksF pk call) := by
  intro g args s r s' hr
  cases hT : pk g args s with
  | none =>
    have e : picksF pk call g args s = call g args s := by unfold picksF; rw [hT]
    rw [e] at hr
    exact hc g args s r s' hr
  | some en =>
    have e : picksF pk call g args s = .ok en.2.2 (killK en.1 s) := by unfold picksF; rw [hT]
    rw [e] at hr
    obtain ⟨rfl, rfl⟩ := ok_inj hr
    obtain ⟨hm, hfn, hseen⟩ := h g args s en hT
    refine ⟨hfn, fun E w vals rel hrl => ?_⟩
    have hdead : ∀ b, St.empty.obj b = .dead := empty_obj
    have hok : RelH (onlyK en.1 s).obj E w := rel.h.kill (fun b => (onlyK_obj en.1 s b).imp id And.left)
    have hlive : ∀ b, (onlyK en.1 s).obj b ≠ .dead → s.obj b ≠ .dead ∧ b ∈ en.1 := fun b hb => by
      rcases onlyK_obj en.1 s b with h1 | ⟨h1, h2⟩
      · exact absurd h1 hb
      · exact ⟨by rw [← h1]; exact hb, h2⟩
    let F : Env := ⟨E.φ, fun k => E.I k ∨ ∃ b, (onlyK en.1 s).obj b ≠ .dead ∧ (E.φ b).block = k, fun _ => False⟩
    have hF : RL F w en.2.1 vals := (mt_rv (F := F) (own := false) hok (fun b hb => .inr ⟨b, hb, rfl⟩) (fun _ k hk => .inl hk) (SizeOf.sizeOf en.2.1)).2.2 _ _ (Nat.le_refl _) hm vals hrl
    have hFs : ∀ k, F.I k → k < w.heap.size := fun k hk => hk.elim (rel.h.seen k) (fun ⟨b, hb, e⟩ => by rw [← e]; exact hok.block_lt hb)
    have hRF : Rel St.empty F w := ⟨fun b _ h => h, ⟨(fun b cs h => by rw [hdead] at h; cases h), (fun b es h => by rw [hdead] at h; cases h), fun b h => absurd (hdead b) h, fun b c h => absurd (hdead b) h, fun b h => absurd (hdead b) h, hFs⟩⟩
    refine Calls.mono (hseen F w vals hRF hF) ?_
    rintro e w' ⟨r0, s1, E1, v, h2, rfl, k1, k2⟩
    have hold : ∀ k, k < w.heap.size → w'.heap[k]? = w.heap[k]? := fun k hk => k2.ext.keep k hk (fun b hb => absurd (hdead b) hb)
    have hnew : ∀ b, s1.obj b ≠ .dead → w.heap.size ≤ (E1.φ b).block ∧ (E1.φ b).block < w'.heap.size := fun b hb => by
      refine ⟨?_, k2.rel.h.block_lt hb⟩
      rcases k2.ext.new b hb with ⟨c, hc, _⟩ | hge
      · exact absurd (hdead c) hc
      · exact hge
    let G : Env := ⟨E.φ, fun k => E1.I k ∨ F.I k ∨ ∃ b, s1.obj b ≠ .dead ∧ (E1.φ b).block = k, E.D⟩
    have hle : Le E w G w' := ⟨fun _ h => h, fun _ _ => rfl, fun _ h => .inr (.inl (.inl h)), fun k hk => hold k (rel.h.seen k hk), .of_old hold⟩
    have hG : ∀ k, G.I k → F.I k ∨ (w.heap.size ≤ k ∧ k < w'.heap.size) := fun k hk => by
      rcases hk with hk | hk | ⟨b, hb, e⟩
      · rcases k2.ext.seen k hk with h1 | h1 | ⟨b, hb, _⟩
        · exact .inl h1
        · exact .inr ⟨h1, k2.rel.h.seen k hk⟩
        · exact absurd (hdead b) hb
      · exact .inl hk
      · exact .inr (by rw [← e]; exact hnew b hb)
    have hv : RV G w' en.2.2 v := (mt_rv (F := G) (own := false) k2.rel.h (fun b hb => .inr (.inr ⟨b, hb, rfl⟩)) (fun _ k hk => .inl hk) (SizeOf.sizeOf en.2.2)).1 _ _ (Nat.le_refl _) h2 v k1
    have hkl : ∀ b, (killK en.1 s).obj b ≠ .dead → b ∉ en.1 ∧ s.obj b ≠ .dead := fun b hb => by
      rcases killK_obj en.1 s b with ⟨_, h1⟩ | ⟨h1, h3⟩
      · exact absurd h1 hb
      · exact ⟨h1, by rw [← h3]; exact hb⟩
    have hRK : RelH (killK en.1 s).obj E w := rel.h.kill (fun b => (killK_obj en.1 s b).imp And.right And.right)
    have rk : RelH (killK en.1 s).obj G w' := by
      refine ⟨fun b cs hb => ?_, fun b es hb => ?_, fun b hb => hRK.old b hb, hRK.inj, fun b hb hI => ?_, fun k hk => ?_⟩
      · have hne : (killK en.1 s).obj b ≠ .dead := by rw [hb]; intro h; cases h
        obtain ⟨c, e, us, H⟩ := hRK.cells b cs hb
        exact ⟨c, e, us, by rw [show (G.φ b) = E.φ b from rfl, hold _ (hRK.block_lt hne)]; exact H.heap, H.row.mono hle, H.at_, H.one⟩
      · have hne : (killK en.1 s).obj b ≠ .dead := by rw [hb]; intro h; cases h
        obtain ⟨ms, cl, H⟩ := hRK.map b es hb
        exact ⟨ms, cl, by rw [show (G.φ b) = E.φ b from rfl, hold _ (hRK.block_lt hne)]; exact H.heap, H.keys.mono hle, H.vals.mono hle, H.born⟩
      · obtain ⟨g1, g2⟩ := hkl b hb
        rcases hG _ hI with h1 | h1
        · rcases h1 with h1 | ⟨c, hc, ec⟩
          · exact rel.h.apart b g2 h1
          · obtain ⟨q1, q2⟩ := hlive c hc
            exact rel.h.inj c b q1 g2 (fun e => g1 (e ▸ q2)) ec
        · have h3 := rel.h.block_lt g2
          have h4 : w.heap.size ≤ (E.φ b).block := h1.1
          omega
      · rcases hG k hk with h1 | h1
        · exact Nat.lt_of_lt_of_le (hFs k h1) k2.ext.size
        · exact h1.2
    refine ⟨G, v, rfl, hv, ⟨⟨rel.n, rk⟩, Nat.le_refl _, ?_⟩⟩
    refine ⟨fun _ h => h, fun _ _ => rfl, fun _ h => .inl h, fun _ h => .inr (.inl (.inl h)), fun k hk => ?_, k2.ext.os, k2.ext.tape, k2.ext.output, k2.ext.size, fun k hk _ => hold k hk, .of_old hold, fun b hb => .inl ⟨b, (hkl b hb).2, rfl⟩⟩
    rcases hG k hk with h1 | h1
    · rcases h1 with h1 | ⟨c, hc, ec⟩
      · exact .inl h1
      · exact .inr (.inr ⟨c, (hlive c hc).1, ec⟩)
    · exact .inr (.inl h1.1)
noncomputable def seesF (base : CallT) (g : Id) (e : List AV × AV) : Bool := (base g e.1 .empty).on false fun r s => mt s false e.2 r
theorem seenF_of {base : CallT} (hb : SoundCall P base) {g : Id} {args : List AV} {ret : AV} (h : seesF base g (args, ret) = true) : Has P g.val ∧ SeenF P g.val args ret := by
  unfold seesF at h
  cases hq : base g args .empty with
  | no =>
    have h' : ((base g args .empty).on false fun r s => mt s false ret r) = true := h
    rw [hq] at h'; cases h'
  | ok r0 s' =>
    have h' : ((base g args .empty).on false fun r s => mt s false ret r) = true := h
    rw [hq] at h'
    have h3 := hb g args .empty r0 s' hq
    exact ⟨h3.1, fun F w vals rel hrl => Calls.mono (h3.2 F w vals rel hrl) fun e w' ⟨E', v, q1, q2, q3⟩ => ⟨r0, s', E', v, h', q1, q2, q3⟩⟩
noncomputable def idsOf (v : AV) : List Id := AV.onSl v [] [] (fun b _ _ _ _ => [b]) fun _ _ _ _ => []
noncomputable def pkByF (gid : Id) (num : List AV → St → Nat) (most : Nat) (pat : Nat → List AV) (res : Nat → AV) (ids : List AV → List Id) : Id → List AV → St → Option (List Id × List AV × AV) := fun g args s =>
  br (decide (g = gid)) (br (brB (Nat.ble (num args s) most) (mt.mts (onlyK (ids args) s) false (pat (num args s)) args) false) (some (ids args, pat (num args s), res (num args s))) none) none
theorem pkByF_sound {gid : Id} {num : List AV → St → Nat} {most : Nat} {pat : Nat → List AV} {res : Nat → AV} {ids : List AV → List Id} (hg : Has P gid.val) (h : ∀ d, d ≤ most → SeenF P gid.val (pat d) (res d)) (call : CallT) (hc : SoundCall P call) : SoundCall P (picksF (pkByF gid num most pat res ids) call) := by
  refine seenF_sound hc (fun g args s en hen => ?_)
  unfold pkByF at hen
  by_cases hgg : g = gid
  · rw [decide_eq_true hgg, br_true] at hen
    rw [brB_and] at hen
    cases hq : (Nat.ble (num args s) most && mt.mts (onlyK (ids args) s) false (pat (num args s)) args) with
    | false => rw [hq] at hen; cases hen
    | true =>
      rw [hq, br_true] at hen
      cases hen
      simp only [Bool.and_eq_true, Nat.ble_eq] at hq
      subst hgg
      exact ⟨hq.2, hg, h _ hq.1⟩
  · rw [decide_eq_false hgg, br_false] at hen; cases hen
/-- Calls, of which some are told, by whatever; the quick machine. -/
noncomputable def qevX (X : CallT → CallT) (C : Tab CF) (k : Nat) : CallT :=
  Nat.rec (motive := fun _ => CallT) (fun _ _ _ => .no) (fun k ih => X fun g args s => qevF ih k (g.get C) args s) k
theorem qevX_sound {X : CallT → CallT} (hdr : ∀ call, SoundCall P call → DrawnOk P call) (hX : ∀ call, SoundCall P call → SoundCall P (X call)) (k : Nat) : SoundCall P (qevX X (prog P) k) := by
  induction k with
  | zero => exact fun g args s r s' h => R.noConfusion h
  | succ k ih =>
    refine hX _ (fun g args s r s' h => ?_)
    rw [qevF_eq] at h
    exact evF_sound ih hdr k h
end Go.Vm
