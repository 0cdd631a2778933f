/- The abstract machine: a loop over a map's entries, in whatever order they come. No condition. -/
import Derived.Test.YtjnejkganejdbaaVmZL
namespace Go.Vm
set_option linter.unusedVariables false
variable {P : Program}
theorem left_less {ms : Array MapEntry} {seen : Array Nat} {e : MapEntry} (he : e ∈ left ms seen) : (left ms (seen.push e.born)).size < (left ms seen).size := by
  have h1 : left ms (seen.push e.born) = (left ms seen).filter fun a => !decide (a.born = e.born) := by
    unfold left
    rw [Array.filter_filter]
    congr 1
    funext a
    simp only [Array.mem_push, Bool.decide_or, Bool.not_or]
    rw [Bool.and_comm]
  have e2 : ((left ms seen).filter fun a => !decide (a.born = e.born)).size = ((left ms seen).toList.filter fun a => !decide (a.born = e.born)).length := by rw [← Array.toList_filter, Array.length_toList]
  rw [h1, e2, ← Array.length_toList]
  refine List.length_filter_lt_length_iff_exists.mpr ⟨e, Array.mem_toList_iff.mpr he, by simp⟩
theorem rel_poke {o : Id → AO} {E : Env} {w w' : World} (h : RelH o E w) (hle : Le E w E w') (hold : ∀ b, o b ≠ .dead → w'.heap[(E.φ b).block]? = w.heap[(E.φ b).block]?) (hsz : w.heap.size ≤ w'.heap.size) : RelH o E w' where
  cells b cs hb := by
    have hne : o b ≠ .dead := by rw [hb]; intro h; cases h
    obtain ⟨c, e, us, H⟩ := h.cells b cs hb
    exact ⟨c, e, us, by rw [hold b hne]; exact H.heap, H.row.mono hle, H.at_, H.one⟩
  map b es hb := by
    have hne : o b ≠ .dead := by rw [hb]; intro h; cases h
    obtain ⟨ms, cl, H⟩ := h.map b es hb
    exact ⟨ms, cl, by rw [hold b hne]; exact H.heap, H.keys.mono hle, H.vals.mono hle, H.born⟩
  old := h.old
  inj := h.inj
  apart := h.apart
  seen k hk := Nat.lt_of_lt_of_le (h.seen k hk) hsz
noncomputable def onlyNor (r : RC) : RC := r.on .no .nor (fun _ _ _ => .no) fun _ _ => .no
/-- A loop over a map's entries, as the translator writes it. -/
structure Turning (P : Program) (nt : Nat) where
  id5 : Nat
  id6 : Nat
  id0 : Nat
  id1 : Nat
  ops5 : Array Oper
  ops6 : Array Oper
  o2 : Oper
  o4 : Oper
  l5 : List Oper
  l6 : List Oper
  it : Tmp
  nx : CD
  en : CD
  c5 : List CR
  c6 : List CR
  cnd : Operand
  b : CO
  C7 : Code
  c7 : CC
  hit : it < 256
  h5 : ops5.toList = o2 :: l5
  hop2 : o2.op = .next (.tmp it) false
  hg2 : o2.guard = none
  hd2 : copD nt o2.dst = some nx
  hc5 : l5.mapM (copR P nt ops5) = some c5
  h6 : ops6.toList = o4 :: l6
  hop4 : o4.op = .entry (.tmp it)
  hg4 : o4.guard = none
  hd4 : copD nt o4.dst = some en
  hc6 : l6.mapM (copR P nt ops6) = some c6
  hb : cod cnd = some b
  h7 : cc P nt C7 = some c7
section
variable {nt : Nat} (T : Turning P nt)
def Turning.code : Code := .seq (.region T.id5 T.ops5 false) (.seq (.cond T.cnd .skip (.exit T.id0)) (.block T.id1 (.seq (.region T.id6 T.ops6 false) T.C7)))
noncomputable def isIt (it : Tmp) (ib : Id) (f : Fr AV) : Bool := ((Sl.ofNat it).get f).onPtr false (fun b o => decide (b = ib) && o == 0) fun _ => false
theorem isIt_ok {it : Tmp} {ib : Id} {f : Fr AV} (h : isIt it ib f = true) : (Sl.ofNat it).get f = .ptr ib 0 := by
  unfold isIt at h
  cases hq : (Sl.ofNat it).get f <;> rw [hq] at h <;> first | (cases h; done) | skip
  rename_i b o
  have h' : (decide (b = ib) && o == 0) = true := h
  simp only [Bool.and_eq_true, decide_eq_true_eq, beq_iff_eq] at h'
  rw [h'.1, h'.2]
variable (call : CallT) (n : Nat) (ib : Id)
noncomputable def Turning.turn (k v : AV) (f : Fr AV) (s : St) : RC :=
  br (isIt T.it ib f) (seqK (fun f s => (ev1 f T.b).onBool .no fun t => br t (br (isIt T.it ib f) (onlyNor (blockK T.id1 (seqK (excode call n T.c7) (exops call T.c6 (putD T.en (.tup [k, v]) f) s)))) .no) .no)
    (exops call T.c5 (putD T.nx (.tup [.bool true, k, v]) f) s)) .no
noncomputable def Turning.last (f : Fr AV) (s : St) : RC :=
  br (isIt T.it ib f) (seqK (fun f s => (ev1 f T.b).onBool .no fun t => br t .no (.nor f s)) (exops call T.c5 (putD T.nx (.tup [.bool false]) f) s)) .no
noncomputable def Turning.turns : List (AV × AV) → Fr AV → St → RC
  | [], f, s => T.last call ib f s
  | e :: p, f, s => seqK (Turning.turns p) (T.turn call n ib e.1 e.2 f s)
end
/-- An order of what is left. -/
def Ord (ms : Array MapEntry) (seen : Array Nat) (q : List Nat) : Prop := (∀ i, i ∈ q ↔ ∃ e, ms[i]? = some e ∧ e.born ∉ seen) ∧ q.Nodup
noncomputable def nthE (es : List (AV × AV)) (i : Nat) : AV × AV := es.getD i (undef, undef)
structure Pos (s0 : St) (E0 : Env) (w0 : World) (ib : Id) (r k : Nat) (ms : Array MapEntry) (cl : Nat) (s : St) (E : Env) (w : World) (seen : Array Nat) : Prop where
  went : Went s0 E0 w0 s E w
  D : E.D ib
  φ : E.φ ib = ⟨r, 0, none⟩
  it : w.heap[r]? = some (.mapIter (some k) cl seen cl)
  map : w.heap[k]? = some (.map ms cl)
  free : ∀ b, s.obj b ≠ .dead → (E.φ b).block ≠ r ∧ (E.φ b).block ≠ k
  notI : ¬ E.I r
section
variable {s0 : St} {E0 : Env} {w0 : World} {ib : Id} {r k : Nat} {ms : Array MapEntry} {cl : Nat}
theorem Pos.next {s s' : St} {E E' : Env} {w w' : World} {seen : Array Nat} (p : Pos s0 E0 w0 ib r k ms cl s E w seen) (h : Went s E w s' E' w') : Pos s0 E0 w0 ib r k ms cl s' E' w' seen := by
  have hr : r < w.heap.size := (Array.getElem?_eq_some_iff.mp p.it).1
  have hk : k < w.heap.size := (Array.getElem?_eq_some_iff.mp p.map).1
  refine ⟨p.went.trans h, h.ext.D _ p.D, by rw [h.ext.φ _ p.D]; exact p.φ, by rw [h.ext.keep r hr (fun b hb => (p.free b hb).1)]; exact p.it, by rw [h.ext.keep k hk (fun b hb => (p.free b hb).2)]; exact p.map, fun b hb => ?_, fun hI => ?_⟩
  · rcases h.ext.new b hb with ⟨c, hc, e⟩ | hge
    · rw [← e]; exact p.free c hc
    · omega
  · rcases h.ext.seen r hI with h1 | h1 | ⟨b, hb, e⟩
    · exact p.notI h1
    · omega
    · exact (p.free b hb).1 e
theorem Pos.poke {s : St} {E : Env} {w w' : World} {seen seen' : Array Nat} (hr0 : w0.heap.size ≤ r) (p : Pos s0 E0 w0 ib r k ms cl s E w seen) (hh : w'.heap = w.heap.setIfInBounds r (.mapIter (some k) cl seen' cl)) (ho : w'.os = w.os) (ht : w'.tape = w.tape) (hu : w'.output = w.output) :
    Pos s0 E0 w0 ib r k ms cl s E w' seen' ∧ Le E w E w' := by
  have hr : r < w.heap.size := (Array.getElem?_eq_some_iff.mp p.it).1
  have hot : ∀ j, j ≠ r → w'.heap[j]? = w.heap[j]? := fun j hj => by rw [hh]; simp [Ne.symm hj]
  have hsz : w'.heap.size = w.heap.size := by rw [hh]; simp
  have hsh : Shaped w w' := fun j c e fr hj => by
    by_cases hjr : j = r
    · subst hjr; rw [p.it] at hj; cases hj
    · exact ⟨c, fr, by rw [hot j hjr]; exact hj, rfl⟩
  have hle : Le E w E w' := ⟨fun _ h => h, fun _ _ => rfl, fun _ h => h, fun j hj => hot j (fun e => p.notI (by rw [← e]; exact hj)), hsh⟩
  have hkr : k ≠ r := fun e => by have := p.it; rw [← e, p.map] at this; cases this
  have x := p.went.ext
  refine ⟨⟨⟨⟨p.went.rel.n, rel_poke p.went.rel.h hle (fun b hb => hot _ (p.free b hb).1) (by omega)⟩, p.went.le, ?_⟩, p.D, p.φ, by rw [hh]; simp [hr], by rw [hot k hkr]; exact p.map, p.free, p.notI⟩, hle⟩
  exact ⟨x.D, x.φ, x.ids, x.I, x.seen, ho.trans x.os, ht.trans x.tape, hu.trans x.output, by rw [hsz]; exact x.size, fun j hj hb => by rw [hot j (by omega)]; exact x.keep j hj hb, x.shape.trans hsh, x.new⟩
theorem code_ok {call : CallT} (hsc : SoundCall P call) (hdr : DrawnOk P call) (n : Nat) {nt : Nat} {c : Code} {c' : CC} (hc : cc P nt c = some c') {f : Fr AV} {s : St} {a : Act} {E : Env} {w : World} (rf : RF E w nt f a) (rel : Rel s E w) (hne : excode call n c' f s ≠ .no) :
    c.wp P (CodePost nt s E w (excode call n c' f s)) a w := code_good hsc hdr n c c' hc f s a E w rf rel hne
theorem isIt_val {nt : Nat} {it : Tmp} {f : Fr AV} {E : Env} {w : World} {a : Act} (hit : it < 256) (h : isIt it ib f = true) (rf : RF E w nt f a) (hφ : E.φ ib = ⟨r, 0, none⟩) : a.eval (.tmp it) = .pointer (some ⟨r, 0, none⟩) := by
  have h1 := rf.slot it hit
  rw [isIt_ok h] at h1
  show a.tmps.getD it Go.undef = _
  generalize a.tmps.getD it Go.undef = u at h1
  cases h1
  rw [hφ]
theorem left_iff {seen : Array Nat} {e : MapEntry} : e ∈ left ms seen ↔ e ∈ ms ∧ e.born ∉ seen := by
  unfold left
  rw [Array.mem_filter]; simp
theorem ord_cons (hb : Born ms cl) {seen : Array Nat} {e : MapEntry} {i : Nat} (hi : ms[i]? = some e) (he : e.born ∉ seen) {q : List Nat} (h : Ord ms (seen.push e.born) q) : Ord ms seen (i :: q) := by
  refine ⟨fun j => ⟨fun hj => ?_, fun ⟨e', h1, h2⟩ => ?_⟩, List.nodup_cons.mpr ⟨fun hq => ?_, h.2⟩⟩
  · rcases List.mem_cons.mp hj with rfl | hj
    · exact ⟨e, hi, he⟩
    · obtain ⟨e', h1, h2⟩ := (h.1 j).mp hj
      exact ⟨e', h1, fun hs => h2 (Array.mem_push.mpr (.inl hs))⟩
  · by_cases hbb : e'.born = e.born
    · rw [hb.inj j i e' e h1 hi hbb]; exact List.mem_cons_self
    · exact List.mem_cons_of_mem _ ((h.1 j).mpr ⟨e', h1, fun hs => (Array.mem_push.mp hs).elim h2 hbb⟩)
  · obtain ⟨e', h1, h2⟩ := (h.1 i).mp hq
    rw [hi] at h1; cases h1
    exact h2 (Array.mem_push.mpr (.inr rfl))
theorem ord_some (seen : Array Nat) : ∃ q, Ord ms seen q := by
  refine ⟨(List.range ms.size).filter fun i => (ms[i]?).any fun e => !decide (e.born ∈ seen), fun i => ⟨fun h => ?_, fun ⟨e, h1, h2⟩ => ?_⟩, List.Nodup.sublist List.filter_sublist List.nodup_range⟩
  · obtain ⟨h1, h2⟩ := List.mem_filter.mp h
    cases hm : ms[i]? with
    | none => rw [hm] at h2; cases h2
    | some e => rw [hm] at h2; exact ⟨e, rfl, by simpa using h2⟩
  · refine List.mem_filter.mpr ⟨List.mem_range.mpr (Array.getElem?_eq_some_iff.mp h1).1, ?_⟩
    rw [h1]; simpa using h2
theorem seqK_no {k : Fr AV → St → RC} {r : RC} (h : seqK k r ≠ .no) : r ≠ .no := fun e => h (by rw [e]; rfl)
theorem onlyNor_no {r : RC} (h : onlyNor r ≠ .no) : r ≠ .no := fun e => h (by rw [e]; rfl)
theorem blockK_no {i : Nat} {r : RC} (h : blockK i r ≠ .no) : r ≠ .no := fun e => h (by rw [e]; rfl)
theorem turn_step {nt : Nat} (T : Turning P nt) {call : CallT} (hsc : SoundCall P call) (hdr : DrawnOk P call) (n : Nat) (hb : Born ms cl) {es : List (AV × AV)} (hk : RL E0 w0 (es.map (·.1)) (ms.toList.map (·.key))) (hv : RL E0 w0 (es.map (·.2)) (ms.toList.map (·.val)))
    (hrel0 : Rel s0 E0 w0) (hr0 : w0.heap.size ≤ r) (Q : Exit → Act → World → Prop) (K : Act → World → Prop) {seen : Array Nat} {f : Fr AV} {s : St} {a : Act} {E : Env} {w : World} (rf : RF E w nt f a) (p : Pos s0 E0 w0 ib r k ms cl s E w seen)
    (hne : ∀ q, Ord ms seen q → T.turns call n ib (q.map (nthE es)) f s ≠ .no)
    (hQ : ∀ q f' s' E' a' w', Ord ms seen q → T.turns call n ib (q.map (nthE es)) f s = .nor f' s' → RF E' w' nt f' a' → Went s0 E0 w0 s' E' w' → Q (.exit T.id0) a' w')
    (hK : ∀ (e : MapEntry) (i : Nat) f' s' a' E' w', e ∈ left ms seen → ms[i]? = some e → T.turn call n ib (nthE es i).1 (nthE es i).2 f s = .nor f' s' → RF E' w' nt f' a' → Pos s0 E0 w0 ib r k ms cl s' E' w' (seen.push e.born) → K a' w') :
    T.code.wp P (Exit.then K Q) a w := by
  have hisit : isIt T.it ib f = true := by
    obtain ⟨q, hq⟩ := ord_some (ms := ms) seen
    have h1 := hne q hq
    cases hi : isIt T.it ib f with
    | true => rfl
    | false =>
      exfalso; apply h1
      cases q with
      | nil => show br (isIt T.it ib f) _ _ = _; rw [hi]; rfl
      | cons i q => show seqK _ (br (isIt T.it ib f) _ _) = _; rw [hi]; rfl
  have hval : a.eval (.tmp T.it) = .pointer (some ⟨r, 0, none⟩) := isIt_val T.hit hisit rf p.φ
  refine wp_seq (wp_region_list ?_)
  rw [T.h5]
  rcases next_run (P := P) (t := T.o2.type) p.it p.map hb with ⟨hl, hrun⟩ | ⟨e, he, w', hh, ho, ht, hu, hrun⟩
  · -- nothing is left
    have hord : Ord ms seen [] := ⟨fun i => ⟨fun h => by simp at h, fun ⟨e, h1, h2⟩ => by
      have : e ∈ left ms seen := left_iff.mpr ⟨Array.mem_of_getElem? h1, h2⟩
      rw [hl] at this; simp at this⟩, List.nodup_nil⟩
    have hne0 : T.last call ib f s ≠ .no := hne [] hord
    have hQ0 := fun f' s' E' a' w' => hQ [] f' s' E' a' w' hord
    have e1 : T.last call ib f s = seqK (fun f s => (ev1 f T.b).onBool .no fun t => br t .no (.nor f s)) (exops call T.c5 (putD T.nx (.tup [.bool false]) f) s) := by
      unfold Turning.last; rw [hisit]; rfl
    rw [e1] at hne0
    refine own_good T.hg2 (w' := w) (v := .tuple #[.bool false]) (by simp [execOp, T.hop2, hval, hrun]) ?_
    have hrv : RV E w (.tup [.bool false]) (.tuple #[.bool false]) := .tup [.bool false] [.bool false] rfl (RL.cons (.bool false) (RL.nil E w)).each
    refine ops_goodQ hsc T.hc5 (putD T.nx (.tup [.bool false]) f) s s _ E E w w (.refl p.went.rel) (rf.put (copD_ok T.hd2) hrv) (seqK_no hne0) (fun f1 s1 E1 a1 w1 h1 h2 h3 => ?_)
    rw [h1] at hne0 e1
    have hne1 : ((ev1 f1 T.b).onBool .no fun t => br t .no (.nor f1 s1)) ≠ RC.no := hne0
    have hbv := cod_rv T.hb h2
    cases hcv : ev1 f1 T.b with
    | bool t =>
      rw [hcv] at hne1 hbv
      cases t with
      | true => exact absurd rfl hne1
      | false =>
        refine wp_seq (wp_cond_false (rv_bool hbv) (wp_exit ?_))
        refine hQ0 f1 s1 E1 a1 w1 ?_ h2 (p.went.trans h3)
        show T.last call ib f s = _
        rw [e1]
        show ((ev1 f1 T.b).onBool RC.no fun t => br t RC.no (RC.nor f1 s1)) = _
        rw [hcv]; rfl
    | _ => rw [hcv] at hne1; exact absurd rfl hne1
  · -- one comes
    obtain ⟨i, hi⟩ := Array.mem_iff_getElem?.mp (left_iff.mp he).1
    have hseen := (left_iff.mp he).2
    obtain ⟨q0, hq0⟩ := ord_some (ms := ms) (seen.push e.born)
    have hne1 : T.turn call n ib (nthE es i).1 (nthE es i).2 f s ≠ .no := by
      have h1 := hne (i :: q0) (ord_cons hb hi hseen hq0)
      exact seqK_no (k := Turning.turns T call n ib (q0.map (nthE es))) h1
    have hKi := fun f' s' a' E' w' => hK e i f' s' a' E' w' he hi
    generalize hkv : (nthE es i).1 = kv at hne1 hKi
    generalize hvv : (nthE es i).2 = vv at hne1 hKi
    have hes : es[i]? = some (kv, vv) := by
      have hl : i < es.length := by have := hk.len; simp at this; rw [← this]; exact (Array.getElem?_eq_some_iff.mp hi).1
      have h1 : nthE es i = es[i] := by unfold nthE; rw [List.getD_eq_getElem?_getD, List.getElem?_eq_getElem hl]; rfl
      rw [List.getElem?_eq_getElem hl, ← h1, ← hkv, ← hvv]
    have hle0 := p.went.toLe hrel0
    obtain ⟨p', hle⟩ := p.poke hr0 hh ho ht hu
    have hkr : RV E w' kv e.key := ((hk.each i kv e.key (by simp [hes]) (by simp [hi])).mono hle0).mono hle
    have hvr : RV E w' vv e.val := ((hv.each i vv e.val (by simp [hes]) (by simp [hi])).mono hle0).mono hle
    have e1 : T.turn call n ib kv vv f s = seqK (fun f s => (ev1 f T.b).onBool .no fun t => br t (br (isIt T.it ib f) (onlyNor (blockK T.id1 (seqK (excode call n T.c7) (exops call T.c6 (putD T.en (.tup [kv, vv]) f) s)))) .no) .no)
        (exops call T.c5 (putD T.nx (.tup [.bool true, kv, vv]) f) s) := by
      unfold Turning.turn; rw [hisit]; rfl
    rw [e1] at hne1
    refine own_good T.hg2 (w' := w') (v := .tuple #[.bool true, e.key, e.val]) (by simp [execOp, T.hop2, hval, hrun]) ?_
    have hrv : RV E w' (.tup [.bool true, kv, vv]) (.tuple #[.bool true, e.key, e.val]) := .tup [.bool true, kv, vv] [.bool true, e.key, e.val] rfl (RL.cons (.bool true) (RL.cons hkr (RL.cons hvr (RL.nil E w')))).each
    refine ops_goodQ hsc T.hc5 (putD T.nx (.tup [.bool true, kv, vv]) f) s s _ E E w' w' (.refl p'.went.rel) ((rf.mono hle).put (copD_ok T.hd2) hrv) (seqK_no hne1) (fun f1 s1 E1 a1 w1 h1 h2 h3 => ?_)
    rw [h1] at hne1 e1
    have hne2 : ((ev1 f1 T.b).onBool .no fun t => br t (br (isIt T.it ib f1) (onlyNor (blockK T.id1 (seqK (excode call n T.c7) (exops call T.c6 (putD T.en (.tup [kv, vv]) f1) s1)))) .no) .no) ≠ RC.no := hne1
    have p1 := p'.next h3
    have hbv := cod_rv T.hb h2
    cases hcv : ev1 f1 T.b with
    | bool t =>
      rw [hcv] at hne2 hbv
      cases t with
      | false => exact absurd rfl hne2
      | true =>
        cases hi1 : isIt T.it ib f1 with
        | false => rw [hi1] at hne2; exact absurd rfl hne2
        | true =>
          rw [hi1] at hne2
          have hne3 : onlyNor (blockK T.id1 (seqK (excode call n T.c7) (exops call T.c6 (putD T.en (.tup [kv, vv]) f1) s1))) ≠ RC.no := hne2
          have hval1 : a1.eval (.tmp T.it) = .pointer (some ⟨r, 0, none⟩) := isIt_val T.hit hi1 h2 p1.φ
          have hle1 := h3.toLe p'.went.rel
          have e2 : T.turn call n ib kv vv f s = onlyNor (blockK T.id1 (seqK (excode call n T.c7) (exops call T.c6 (putD T.en (.tup [kv, vv]) f1) s1))) := by
            rw [e1]
            show ((ev1 f1 T.b).onBool RC.no fun t => br t (br (isIt T.it ib f1) _ RC.no) RC.no) = _
            rw [hcv, hi1]; rfl
          refine wp_seq (wp_cond_true (rv_bool hbv) (wp_skip (wp_block (wp_seq (wp_region_list ?_)))))
          rw [T.h6]
          refine own_good T.hg4 (w' := w1) (v := .tuple #[e.key, e.val]) (by simp [execOp, T.hop4, hval1, run_entry (left_iff.mp he).1 p1.it p1.map hb]) ?_
          have hrv2 : RV E1 w1 (.tup [kv, vv]) (.tuple #[e.key, e.val]) := .tup [kv, vv] [e.key, e.val] rfl (RL.cons (hkr.mono hle1) (RL.cons (hvr.mono hle1) (RL.nil E1 w1))).each
          refine ops_goodQ hsc T.hc6 (putD T.en (.tup [kv, vv]) f1) s1 s1 _ E1 E1 w1 w1 (.refl p1.went.rel) (h2.put (copD_ok T.hd4) hrv2) (seqK_no (blockK_no (onlyNor_no hne3))) (fun f2 s2 E2 a2 w2 g1 g2 g3 => ?_)
          rw [g1] at hne3 e2
          have hne4 : onlyNor (blockK T.id1 (excode call n T.c7 f2 s2)) ≠ RC.no := hne3
          have e3 : T.turn call n ib kv vv f s = onlyNor (blockK T.id1 (excode call n T.c7 f2 s2)) := e2
          have p2 := p1.next g3
          refine Code.wp_mono ?_ (code_ok hsc hdr n T.h7 g2 g3.rel (blockK_no (onlyNor_no hne4)))
          intro ex a3 w3 hp
          have done : ∀ f3 s3 E3, T.turn call n ib kv vv f s = .nor f3 s3 → RF E3 w3 nt f3 a3 → Went s2 E2 w2 s3 E3 w3 → K a3 w3 := fun f3 s3 E3 q1 q2 q3 => hKi f3 s3 a3 E3 w3 q1 q2 (p2.next q3)
          cases ex with
          | normal =>
            obtain ⟨f3, s3, E3, q1, q2, q3⟩ := hp
            exact done f3 s3 E3 (by rw [e3, q1]; rfl) q2 q3
          | exit j =>
            obtain ⟨f3, s3, E3, q1, q2, q3⟩ := hp
            by_cases hj : j = T.id1
            · subst hj
              show if T.id1 = T.id1 then _ else _
              rw [if_pos rfl]
              refine done f3 s3 E3 ?_ q2 q3
              rw [e3, q1]
              show onlyNor (br (Nat.beq T.id1 T.id1) _ _) = _
              rw [Nat.beq_refl]; rfl
            · exfalso
              apply hne4
              rw [q1]
              show onlyNor (br (Nat.beq j T.id1) _ _) = _
              have : Nat.beq j T.id1 = false := by
                cases hq : Nat.beq j T.id1 with
                | false => rfl
                | true => exact absurd (Nat.eq_of_beq_eq_true hq) hj
              rw [this]; rfl
          | ret =>
            obtain ⟨f3, s3, E3, q1, q2, q3⟩ := hp
            exact absurd (by rw [q1]; rfl) hne4
          | _ => exact hp.elim
    | _ => rw [hcv] at hne2; exact absurd rfl hne2
theorem turns_good {nt : Nat} (T : Turning P nt) {call : CallT} (hsc : SoundCall P call) (hdr : DrawnOk P call) (n : Nat) (hb : Born ms cl) {es : List (AV × AV)} (hk : RL E0 w0 (es.map (·.1)) (ms.toList.map (·.key))) (hv : RL E0 w0 (es.map (·.2)) (ms.toList.map (·.val)))
    (hrel0 : Rel s0 E0 w0) (hr0 : w0.heap.size ≤ r) (Q : Exit → Act → World → Prop) : ∀ (m : Nat) (seen : Array Nat) (f : Fr AV) (s : St) (a : Act) (E : Env) (w : World), (left ms seen).size ≤ m → RF E w nt f a → Pos s0 E0 w0 ib r k ms cl s E w seen →
    (∀ q, Ord ms seen q → T.turns call n ib (q.map (nthE es)) f s ≠ .no) →
    (∀ q f' s' E' a' w', Ord ms seen q → T.turns call n ib (q.map (nthE es)) f s = .nor f' s' → RF E' w' nt f' a' → Went s0 E0 w0 s' E' w' → Q (.exit T.id0) a' w') →
    Code.rounds P T.code Q (m + 1) a w := by
  intro m
  induction m with
  | zero =>
    intro seen f s a E w hm rf p hne hQ
    refine turn_step T hsc hdr n hb hk hv hrel0 hr0 Q _ rf p hne hQ (fun e i f' s' a' E' w' he => ?_)
    have := left_less he
    omega
  | succ m ih =>
    intro seen f s a E w hm rf p hne hQ
    refine turn_step T hsc hdr n hb hk hv hrel0 hr0 Q _ rf p hne hQ (fun e i f' s' a' E' w' he hi ht rf' p' => ?_)
    have hlt := left_less he
    have hseen := (left_iff.mp he).2
    have step : ∀ q, Ord ms (seen.push e.born) q → T.turns call n ib ((i :: q).map (nthE es)) f s = T.turns call n ib (q.map (nthE es)) f' s' := fun q hq => by
      show seqK (Turning.turns T call n ib (q.map (nthE es))) (T.turn call n ib (nthE es i).1 (nthE es i).2 f s) = _
      rw [ht]; rfl
    exact ih (seen.push e.born) f' s' a' E' w' (by omega) rf' p' (fun q hq => by rw [← step q hq]; exact hne _ (ord_cons hb hi hseen hq))
      (fun q f2 s2 E2 a2 w2 hq h1 => hQ (i :: q) f2 s2 E2 a2 w2 (ord_cons hb hi hseen hq) (by rw [step q hq]; exact h1))
theorem ord_perm {q : List Nat} (h : Ord ms #[] q) {es : List (AV × AV)} (hl : es.length = ms.size) : (q.map (nthE es)).Perm es := by
  have h1 : q.Perm (List.range ms.size) := by
    refine (List.perm_ext_iff_of_nodup h.2 List.nodup_range).mpr fun i => ?_
    rw [h.1 i, List.mem_range]
    constructor
    · rintro ⟨e, he, _⟩; exact (Array.getElem?_eq_some_iff.mp he).1
    · intro hi; exact ⟨ms[i], Array.getElem?_eq_getElem hi, by simp⟩
  have h2 : (List.range ms.size).map (nthE es) = es := by
    apply List.ext_getElem
    · simp [hl]
    · intro i h3 h4
      rw [List.getElem_map, List.getElem_range]
      unfold nthE
      rw [List.getD_eq_getElem?_getD, List.getElem?_eq_getElem h4]; rfl
  have h3 := h1.map (nthE es)
  rw [h2] at h3
  exact h3
end
/-- A loop over a map, from its making on. -/
theorem ranged_good {nt : Nat} (T : Turning P nt) {call : CallT} (hsc : SoundCall P call) (hdr : DrawnOk P call) (n : Nat) {id4 : Nat} {ops4 : Array Oper} {o0 o1 : Oper} (h4 : ops4.toList = [o0, o1]) {cd0 cd1 : CD} {co0 : COp} (hc0 : copR P nt ops4 o0 = some (.mk cd0 co0 .none))
    {t kt et : TypeId} {x : Tmp} (hx256 : x < 256) (hop1 : o1.op = .range t (.tmp x)) (ht : P.underlying t = some (.map kt et)) (hg1 : o1.guard = none) (hd1 : copD nt o1.dst = some cd1)
    {f : Fr AV} {s s1 s2 : St} {a : Act} {E : Env} {w : World} {v : AV} {mb : Id} {es : List (AV × AV)} (rf : RF E w nt f a) (rel : Rel s E w) (hx0 : exop co0 call f s = .ok v s1) (hv : (Sl.ofNat x).get (putD cd0 v f) = .map mb) (hes : s1.obj mb = .map es)
    (hs2 : s2.n.val = s1.n.val + 1) (ho2 : ∀ b, s2.obj b = if b = mb then .dead else s1.obj b) (Q : Exit → Act → World → Prop)
    (hne : ∀ p, p.Perm es → T.turns call n s1.n p (putD cd1 (.ptr s1.n 0) (putD cd0 v f)) s2 ≠ .no)
    (hQ : ∀ p f' s' E' a' w', p.Perm es → T.turns call n s1.n p (putD cd1 (.ptr s1.n 0) (putD cd0 v f)) s2 = .nor f' s' → RF E' w' nt f' a' → Went s E w s' E' w' → Q .normal a' w') :
    (Code.seq (.region id4 ops4 false) (.block T.id0 (.loop T.code))).wp P Q a w := by
  refine wp_seq (wp_region_list ?_)
  rw [h4]
  refine one_good hsc hc0 rf rel hx0 (fun a1 E1 w1 rf1 h1 => ?_)
  have rh := h1.rel.h
  have hmb : s1.obj mb ≠ .dead := by rw [hes]; intro h; cases h
  obtain ⟨ms, cl, H⟩ := rh.map mb es hes
  have hval : a1.eval (.tmp x) = .map (some (E1.φ mb).block) := by
    have h2 := rf1.slot x hx256
    rw [hv] at h2
    show a1.tmps.getD x Go.undef = _
    generalize a1.tmps.getD x Go.undef = u at h2
    cases h2; rfl
  have hfresh : ¬ E1.D s1.n := h1.rel.n s1.n (Nat.le_refl _)
  let w2 := w1.alloc (.mapIter (some (E1.φ mb).block) cl #[] cl)
  let E2 : Env := ⟨fun b => if b = s1.n then ⟨w1.heap.size, 0, none⟩ else E1.φ b, E1.I, fun b => E1.D b ∨ b = s1.n⟩
  have hφ : ∀ b, E1.D b → E2.φ b = E1.φ b := fun b hb => if_neg (fun h' : b = s1.n => hfresh (by rw [← h']; exact hb))
  have hφn : E2.φ s1.n = ⟨w1.heap.size, 0, none⟩ := if_pos rfl
  have hheap : w2.heap = w1.heap.push (.mapIter (some (E1.φ mb).block) cl #[] cl) := rfl
  have hold : ∀ j, j < w1.heap.size → w2.heap[j]? = w1.heap[j]? := fun j hj => by rw [hheap, Array.getElem?_push, if_neg (by omega)]
  have hsz : w1.heap.size ≤ w2.heap.size := by rw [hheap, Array.size_push]; omega
  have hle : Le E1 w1 E2 w2 := ⟨fun b hb => .inl hb, hφ, fun _ hk => hk, fun k hk => hold k (rh.seen k hk), .of_old hold⟩
  have hlive : ∀ b, s2.obj b ≠ .dead → s1.obj b ≠ .dead ∧ b ≠ mb := fun b hb => by
    rw [ho2] at hb
    split at hb
    · exact absurd rfl hb
    · exact ⟨hb, by assumption⟩
  have rh2 : RelH s2.obj E2 w2 := (rel_keep rh hle hold hsz (fun k hk => .inl hk)).kill (fun b => by
    rw [ho2]
    by_cases hb : b = mb
    · exact .inl (if_pos hb)
    · exact .inr (if_neg hb))
  have hw2 : Went s1 E1 w1 s2 E2 w2 := by
    refine ⟨⟨fun b hb hD => ?_, rh2⟩, by omega, ⟨hle.D, hφ, fun b hb => ?_, fun _ hk => hk, fun _ hk => .inl hk, rfl, rfl, rfl, hsz, fun k hk _ => hold k hk, .of_old hold, fun b hb => ?_⟩⟩
    · rcases hD with hD | rfl
      · exact h1.rel.n b (by omega) hD
      · omega
    · rcases hb with hb | rfl
      · exact .inl hb
      · exact .inr ⟨Nat.le_refl _, by omega⟩
    · have := (hlive b hb).1
      exact .inl ⟨b, this, by rw [hφ b (rh.old b this)]⟩
  refine own_good hg1 (w' := w2) (v := .pointer (some ⟨w1.heap.size, 0, none⟩)) (by simp [execOp, hop1, hval, run_range ht H.heap]; rfl) (wpList_nil ?_)
  have hrv : RV E2 w2 (.ptr s1.n 0) (.pointer (some ⟨w1.heap.size, 0, none⟩)) := by
    have := RV.ptr (E := E2) (w := w2) s1.n 0 (.inr rfl)
    rwa [hφn] at this
  have rf2 := (rf1.mono hle).put (copD_ok hd1) hrv
  have hlen : es.length = ms.size := by have := H.keys.len; simp at this; omega
  have hpos : Pos s1 E1 w1 s1.n w1.heap.size (E1.φ mb).block ms cl s2 E2 w2 #[] := by
    refine ⟨hw2, .inr rfl, hφn, by rw [hheap]; simp, by rw [hold _ (rh.block_lt hmb)]; exact H.heap, fun b hb => ?_, fun hI => ?_⟩
    · obtain ⟨g1, g2⟩ := hlive b hb
      rw [hφ b (rh.old b g1)]
      exact ⟨Nat.ne_of_lt (rh.block_lt g1), rh.inj b mb g1 hmb g2⟩
    · have := rh.seen _ hI; omega
  refine wp_block (wp_loop_rounds _ (turns_good T hsc hdr n H.born H.keys H.vals h1.rel (Nat.le_refl _) _ _ #[] _ s2 _ E2 w2 (Nat.le_refl _) rf2 hpos (fun q hq => hne _ (ord_perm hq hlen)) (fun q f' s' E' a' w' hq g1 g2 g3 => ?_)))
  show if T.id0 = T.id0 then _ else _
  rw [if_pos rfl]
  exact hQ _ f' s' E' a' w' (ord_perm hq hlen) g1 g2 (h1.trans g3)
end Go.Vm
