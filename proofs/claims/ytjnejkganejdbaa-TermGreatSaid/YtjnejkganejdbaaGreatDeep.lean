/- Terms within terms: the law, as deep as may be, evaluated piece by piece. No condition. -/
import Derived.Test.YtjnejkganejdbaaGreatDefs
namespace Go.Proofs.Ytjnejkganejdbaa.termGreat
set_option linter.unusedVariables false
set_option maxRecDepth 100000
open Vm hiding Id Told
/-- So many rounds. -/
noncomputable def rounds (n : Nat) (body : Fr AV → St → RC) (f : Fr AV) (s : St) : RC := Nat.rec (motive := fun _ => Fr AV → St → RC) (fun f s => .nor f s) (fun _ ih f s => qseqK ih (body f s)) n f s
theorem iter_rounds (n m : Nat) (body : Fr AV → St → RC) (f : Fr AV) (s : St) {f1 : Fr AV} {s1 : St} (h : rounds n body f s = .nor f1 s1) : qiter (m + n) body f s = qiter m body f1 s1 := by
  induction n generalizing f s with
  | zero => cases h; rfl
  | succ n ih =>
    have h' : qseqK (rounds n body) (body f s) = .nor f1 s1 := h
    show qseqK (qiter (m + n) body) (body f s) = _
    cases hb : body f s with
    | no => rw [hb] at h'; cases h'
    | exit i f2 s2 => rw [hb] at h'; cases h'
    | ret f2 s2 => rw [hb] at h'; cases h'
    | nor f2 s2 => rw [hb] at h'; exact ih f2 s2 h'
noncomputable def c4 : CC := c3.snd
noncomputable def c5 : CC := c4.snd
noncomputable def d1 : CC := c5.fst.snd.fst
noncomputable def lp : CC := d1.snd
noncomputable def inner : CC → CC := CC.rec (motive := fun _ => CC) .skip (fun _ => .skip) (fun _ => .skip) (fun _ _ _ _ => .skip) (fun _ _ _ _ _ => .skip) (fun _ a _ => a) (fun a _ => a) (fun _ => .skip) .skip
noncomputable def bd : CC := inner (inner lp)
theorem c3_seq : c3 = .seq c3.fst c3.snd := by kernel_rfl
theorem c4_seq : c4 = .seq c4.fst c4.snd := by kernel_rfl
theorem c5_seq : c5 = .seq c5.fst c5.snd := by kernel_rfl
theorem c5f_seq : c5.fst = .seq c5.fst.fst c5.fst.snd := by kernel_rfl
theorem c5c : c5.fst.snd = .cond (.t (.mk .d1 .d2)) d1 c5.fst.snd.snd := by kernel_rfl
theorem d1_seq : d1 = .seq d1.fst d1.snd := by kernel_rfl
theorem lp_mk : lp = .block 0 (.loop bd) := by kernel_rfl
noncomputable def bA : Vm.Id := .mk .d0 .d0 .d0 .d0
noncomputable def b0 : Vm.Id := .mk .d0 .d0 .d0 .d1
noncomputable def st (d : Nat) (t : List AV) : St := .mk (b0.set (.cells t) (bA.set (.cells leaf) (.rep .dead))) (Vm.Id.ofNat (d + 2))
noncomputable def g4 (x m k : Int) : Fr AV := at_ 6 (.ptr b0 0) (at_ 17 (.agg leaf) (f3 x true m k))
noncomputable def g5 (x m k : Int) : Fr AV := at_ 7 (num 0) (g4 x m k)
noncomputable def g6 (x m k : Int) : Fr AV := at_ 18 (.bool true) (g5 x m k)
noncomputable def g7 (x m k : Int) : Fr AV := at_ 8 (num 0) (g6 x m k)
/-- Behind a round: the term that went in, what came out, an error. -/
noncomputable def g8 (x m k : Int) (i : Nat) (t : List AV) (e : Nat) : Fr AV :=
  at_ 8 (num (i + 1)) (at_ 27 (num (i + 1)) (at_ 26 (num i) (at_ 7 (num e) (at_ 33 (num e) (at_ 32 (.agg t) (at_ 28 (.tup [.agg t, num e]) (at_ 31 (.tup [.agg t, num e]) (at_ 30 (.sl (Vm.Id.ofNat (i + 2)) 0 1 1 0) (at_ 29 (.agg (nest i))
    (at_ 25 (.bool true) (at_ 24 (.bool true) (at_ 23 (num 0) (at_ 22 (.bool true) (at_ 21 (.bool true) (at_ 20 (.int .i64 k) (at_ 19 (num i) (g7 x m k)))))))))))))))))
theorem qcond_true {call : CallT} {n : Nat} {c a b : CC} {o : CO} {f : Fr AV} {s : St} (hc : c = .cond o a b) (hv : qev1 f o = .bool true) : qexcode c call n f s = qexcode a call n f s := by
  rw [hc]
  show AV.rBool (qev1 f o) RC.no (fun t => brC t (qexcode a call n f s) (qexcode b call n f s)) = _
  rw [hv]; rfl
theorem qblock_loop {call : CallT} {n i : Nat} {c b : CC} {f : Fr AV} {s : St} (hc : c = .block i (.loop b)) : qexcode c call n f s = qblockK i (qiter n (qexcode b call n) f s) := by
  rw [hc]; rfl
theorem g6_at (x m k : Int) : qev1 (g6 x m k) (.t (.mk .d1 .d2)) = .bool true := by kernel_rfl
theorem p4 (x m k : Int) : qexcode c3.fst call M (f3 x true m k) .empty = .nor (g4 x m k) (st 0 (nest 0)) := by kernel_rfl
theorem p5 (x m k : Int) (s : St) : qexcode c4.fst call M (g4 x m k) s = .nor (g5 x m k) s := by kernel_rfl
theorem p6 (x m k : Int) (s : St) : qexcode c5.fst.fst call M (g5 x m k) s = .nor (g6 x m k) s := by kernel_rfl
theorem p7 (x m k : Int) (s : St) : qexcode d1.fst call M (g6 x m k) s = .nor (g7 x m k) s := by kernel_rfl
noncomputable def body : Fr AV → St → RC := qexcode bd call M
theorem step0_0 (x : Int) : rounds 40 body (g7 x 0 398) (st 0 (nest 0)) = .nor (g8 x 0 398 39 (nest 40) 0) (st 40 (nest 40)) := by kernel_rfl
theorem step0_1 (x : Int) : rounds 40 body (g8 x 0 398 39 (nest 40) 0) (st 40 (nest 40)) = .nor (g8 x 0 398 79 (nest 80) 0) (st 80 (nest 80)) := by kernel_rfl
theorem step0_2 (x : Int) : rounds 40 body (g8 x 0 398 79 (nest 80) 0) (st 80 (nest 80)) = .nor (g8 x 0 398 119 (nest 120) 0) (st 120 (nest 120)) := by kernel_rfl
theorem step0_3 (x : Int) : rounds 40 body (g8 x 0 398 119 (nest 120) 0) (st 120 (nest 120)) = .nor (g8 x 0 398 159 (nest 160) 0) (st 160 (nest 160)) := by kernel_rfl
theorem step0_4 (x : Int) : rounds 40 body (g8 x 0 398 159 (nest 160) 0) (st 160 (nest 160)) = .nor (g8 x 0 398 199 (nest 200) 0) (st 200 (nest 200)) := by kernel_rfl
theorem step0_5 (x : Int) : rounds 40 body (g8 x 0 398 199 (nest 200) 0) (st 200 (nest 200)) = .nor (g8 x 0 398 239 (nest 240) 0) (st 240 (nest 240)) := by kernel_rfl
theorem step0_6 (x : Int) : rounds 40 body (g8 x 0 398 239 (nest 240) 0) (st 240 (nest 240)) = .nor (g8 x 0 398 279 (nest 280) 0) (st 280 (nest 280)) := by kernel_rfl
theorem step0_7 (x : Int) : rounds 40 body (g8 x 0 398 279 (nest 280) 0) (st 280 (nest 280)) = .nor (g8 x 0 398 319 (nest 320) 0) (st 320 (nest 320)) := by kernel_rfl
theorem step0_8 (x : Int) : rounds 40 body (g8 x 0 398 319 (nest 320) 0) (st 320 (nest 320)) = .nor (g8 x 0 398 359 (nest 360) 0) (st 360 (nest 360)) := by kernel_rfl
theorem step0_9 (x : Int) : rounds 38 body (g8 x 0 398 359 (nest 360) 0) (st 360 (nest 360)) = .nor (g8 x 0 398 397 (nest 398) 0) (st 398 (nest 398)) := by kernel_rfl
theorem end0 (x : Int) : says true (fin law.res (qseqK (qexcode c5.snd call M) (qblockK 0 (qiter 999602 body (g8 x 0 398 397 (nest 398) 0) (st 398 (nest 398)))))) = true := by kernel_rfl
theorem deep0 (x : Int) : rest x true 0 = true := by
  unfold rest
  show says true (fin law.res (qexcode c3 call M (f3 x true 0 398) .empty)) = true
  rw [qseq_nor c3_seq (p4 x 0 398)]
  show says true (fin law.res (qexcode c4 call M (g4 x 0 398) (st 0 (nest 0)))) = true
  rw [qseq_nor c4_seq (p5 x 0 398 _)]
  show says true (fin law.res (qexcode c5 call M (g5 x 0 398) (st 0 (nest 0)))) = true
  rw [qseq_run c5_seq, qseq_nor c5f_seq (p6 x 0 398 _)]
  have e1 : qexcode c5.fst.snd call M (g6 x 0 398) (st 0 (nest 0)) = qexcode d1 call M (g6 x 0 398) (st 0 (nest 0)) := qcond_true c5c (g6_at x 0 398)
  rw [e1, qseq_nor d1_seq (p7 x 0 398 _)]
  have e2 : qexcode d1.snd call M (g7 x 0 398) (st 0 (nest 0)) = qblockK 0 (qiter M body (g7 x 0 398) (st 0 (nest 0))) := qblock_loop lp_mk
  rw [e2]
  have h0 : qiter M body _ _ = qiter 999960 body _ _ := iter_rounds 40 999960 body _ _ (step0_0 x)
  rw [h0]
  have h1 : qiter 999960 body _ _ = qiter 999920 body _ _ := iter_rounds 40 999920 body _ _ (step0_1 x)
  rw [h1]
  have h2 : qiter 999920 body _ _ = qiter 999880 body _ _ := iter_rounds 40 999880 body _ _ (step0_2 x)
  rw [h2]
  have h3 : qiter 999880 body _ _ = qiter 999840 body _ _ := iter_rounds 40 999840 body _ _ (step0_3 x)
  rw [h3]
  have h4 : qiter 999840 body _ _ = qiter 999800 body _ _ := iter_rounds 40 999800 body _ _ (step0_4 x)
  rw [h4]
  have h5 : qiter 999800 body _ _ = qiter 999760 body _ _ := iter_rounds 40 999760 body _ _ (step0_5 x)
  rw [h5]
  have h6 : qiter 999760 body _ _ = qiter 999720 body _ _ := iter_rounds 40 999720 body _ _ (step0_6 x)
  rw [h6]
  have h7 : qiter 999720 body _ _ = qiter 999680 body _ _ := iter_rounds 40 999680 body _ _ (step0_7 x)
  rw [h7]
  have h8 : qiter 999680 body _ _ = qiter 999640 body _ _ := iter_rounds 40 999640 body _ _ (step0_8 x)
  rw [h8]
  have h9 : qiter 999640 body _ _ = qiter 999602 body _ _ := iter_rounds 38 999602 body _ _ (step0_9 x)
  rw [h9]
  exact end0 x
theorem step1_0 (x : Int) : rounds 40 body (g7 x 1 399) (st 0 (nest 0)) = .nor (g8 x 1 399 39 (nest 40) 0) (st 40 (nest 40)) := by kernel_rfl
theorem step1_1 (x : Int) : rounds 40 body (g8 x 1 399 39 (nest 40) 0) (st 40 (nest 40)) = .nor (g8 x 1 399 79 (nest 80) 0) (st 80 (nest 80)) := by kernel_rfl
theorem step1_2 (x : Int) : rounds 40 body (g8 x 1 399 79 (nest 80) 0) (st 80 (nest 80)) = .nor (g8 x 1 399 119 (nest 120) 0) (st 120 (nest 120)) := by kernel_rfl
theorem step1_3 (x : Int) : rounds 40 body (g8 x 1 399 119 (nest 120) 0) (st 120 (nest 120)) = .nor (g8 x 1 399 159 (nest 160) 0) (st 160 (nest 160)) := by kernel_rfl
theorem step1_4 (x : Int) : rounds 40 body (g8 x 1 399 159 (nest 160) 0) (st 160 (nest 160)) = .nor (g8 x 1 399 199 (nest 200) 0) (st 200 (nest 200)) := by kernel_rfl
theorem step1_5 (x : Int) : rounds 40 body (g8 x 1 399 199 (nest 200) 0) (st 200 (nest 200)) = .nor (g8 x 1 399 239 (nest 240) 0) (st 240 (nest 240)) := by kernel_rfl
theorem step1_6 (x : Int) : rounds 40 body (g8 x 1 399 239 (nest 240) 0) (st 240 (nest 240)) = .nor (g8 x 1 399 279 (nest 280) 0) (st 280 (nest 280)) := by kernel_rfl
theorem step1_7 (x : Int) : rounds 40 body (g8 x 1 399 279 (nest 280) 0) (st 280 (nest 280)) = .nor (g8 x 1 399 319 (nest 320) 0) (st 320 (nest 320)) := by kernel_rfl
theorem step1_8 (x : Int) : rounds 40 body (g8 x 1 399 319 (nest 320) 0) (st 320 (nest 320)) = .nor (g8 x 1 399 359 (nest 360) 0) (st 360 (nest 360)) := by kernel_rfl
theorem step1_9 (x : Int) : rounds 39 body (g8 x 1 399 359 (nest 360) 0) (st 360 (nest 360)) = .nor (g8 x 1 399 398 (nest 399) 0) (st 399 (nest 399)) := by kernel_rfl
theorem end1 (x : Int) : says true (fin law.res (qseqK (qexcode c5.snd call M) (qblockK 0 (qiter 999601 body (g8 x 1 399 398 (nest 399) 0) (st 399 (nest 399)))))) = true := by kernel_rfl
theorem deep1 (x : Int) : rest x true 1 = true := by
  unfold rest
  show says true (fin law.res (qexcode c3 call M (f3 x true 1 399) .empty)) = true
  rw [qseq_nor c3_seq (p4 x 1 399)]
  show says true (fin law.res (qexcode c4 call M (g4 x 1 399) (st 0 (nest 0)))) = true
  rw [qseq_nor c4_seq (p5 x 1 399 _)]
  show says true (fin law.res (qexcode c5 call M (g5 x 1 399) (st 0 (nest 0)))) = true
  rw [qseq_run c5_seq, qseq_nor c5f_seq (p6 x 1 399 _)]
  have e1 : qexcode c5.fst.snd call M (g6 x 1 399) (st 0 (nest 0)) = qexcode d1 call M (g6 x 1 399) (st 0 (nest 0)) := qcond_true c5c (g6_at x 1 399)
  rw [e1, qseq_nor d1_seq (p7 x 1 399 _)]
  have e2 : qexcode d1.snd call M (g7 x 1 399) (st 0 (nest 0)) = qblockK 0 (qiter M body (g7 x 1 399) (st 0 (nest 0))) := qblock_loop lp_mk
  rw [e2]
  have h0 : qiter M body _ _ = qiter 999960 body _ _ := iter_rounds 40 999960 body _ _ (step1_0 x)
  rw [h0]
  have h1 : qiter 999960 body _ _ = qiter 999920 body _ _ := iter_rounds 40 999920 body _ _ (step1_1 x)
  rw [h1]
  have h2 : qiter 999920 body _ _ = qiter 999880 body _ _ := iter_rounds 40 999880 body _ _ (step1_2 x)
  rw [h2]
  have h3 : qiter 999880 body _ _ = qiter 999840 body _ _ := iter_rounds 40 999840 body _ _ (step1_3 x)
  rw [h3]
  have h4 : qiter 999840 body _ _ = qiter 999800 body _ _ := iter_rounds 40 999800 body _ _ (step1_4 x)
  rw [h4]
  have h5 : qiter 999800 body _ _ = qiter 999760 body _ _ := iter_rounds 40 999760 body _ _ (step1_5 x)
  rw [h5]
  have h6 : qiter 999760 body _ _ = qiter 999720 body _ _ := iter_rounds 40 999720 body _ _ (step1_6 x)
  rw [h6]
  have h7 : qiter 999720 body _ _ = qiter 999680 body _ _ := iter_rounds 40 999680 body _ _ (step1_7 x)
  rw [h7]
  have h8 : qiter 999680 body _ _ = qiter 999640 body _ _ := iter_rounds 40 999640 body _ _ (step1_8 x)
  rw [h8]
  have h9 : qiter 999640 body _ _ = qiter 999601 body _ _ := iter_rounds 39 999601 body _ _ (step1_9 x)
  rw [h9]
  exact end1 x
theorem step2_0 (x : Int) : rounds 40 body (g7 x 2 400) (st 0 (nest 0)) = .nor (g8 x 2 400 39 (nest 40) 0) (st 40 (nest 40)) := by kernel_rfl
theorem step2_1 (x : Int) : rounds 40 body (g8 x 2 400 39 (nest 40) 0) (st 40 (nest 40)) = .nor (g8 x 2 400 79 (nest 80) 0) (st 80 (nest 80)) := by kernel_rfl
theorem step2_2 (x : Int) : rounds 40 body (g8 x 2 400 79 (nest 80) 0) (st 80 (nest 80)) = .nor (g8 x 2 400 119 (nest 120) 0) (st 120 (nest 120)) := by kernel_rfl
theorem step2_3 (x : Int) : rounds 40 body (g8 x 2 400 119 (nest 120) 0) (st 120 (nest 120)) = .nor (g8 x 2 400 159 (nest 160) 0) (st 160 (nest 160)) := by kernel_rfl
theorem step2_4 (x : Int) : rounds 40 body (g8 x 2 400 159 (nest 160) 0) (st 160 (nest 160)) = .nor (g8 x 2 400 199 (nest 200) 0) (st 200 (nest 200)) := by kernel_rfl
theorem step2_5 (x : Int) : rounds 40 body (g8 x 2 400 199 (nest 200) 0) (st 200 (nest 200)) = .nor (g8 x 2 400 239 (nest 240) 0) (st 240 (nest 240)) := by kernel_rfl
theorem step2_6 (x : Int) : rounds 40 body (g8 x 2 400 239 (nest 240) 0) (st 240 (nest 240)) = .nor (g8 x 2 400 279 (nest 280) 0) (st 280 (nest 280)) := by kernel_rfl
theorem step2_7 (x : Int) : rounds 40 body (g8 x 2 400 279 (nest 280) 0) (st 280 (nest 280)) = .nor (g8 x 2 400 319 (nest 320) 0) (st 320 (nest 320)) := by kernel_rfl
theorem step2_8 (x : Int) : rounds 40 body (g8 x 2 400 319 (nest 320) 0) (st 320 (nest 320)) = .nor (g8 x 2 400 359 (nest 360) 0) (st 360 (nest 360)) := by kernel_rfl
theorem step2_9 (x : Int) : rounds 40 body (g8 x 2 400 359 (nest 360) 0) (st 360 (nest 360)) = .nor (g8 x 2 400 399 none_ 11) (st 400 none_) := by kernel_rfl
theorem end2 (x : Int) : says true (fin law.res (qseqK (qexcode c5.snd call M) (qblockK 0 (qiter 999600 body (g8 x 2 400 399 none_ 11) (st 400 none_))))) = true := by kernel_rfl
theorem deep2 (x : Int) : rest x true 2 = true := by
  unfold rest
  show says true (fin law.res (qexcode c3 call M (f3 x true 2 400) .empty)) = true
  rw [qseq_nor c3_seq (p4 x 2 400)]
  show says true (fin law.res (qexcode c4 call M (g4 x 2 400) (st 0 (nest 0)))) = true
  rw [qseq_nor c4_seq (p5 x 2 400 _)]
  show says true (fin law.res (qexcode c5 call M (g5 x 2 400) (st 0 (nest 0)))) = true
  rw [qseq_run c5_seq, qseq_nor c5f_seq (p6 x 2 400 _)]
  have e1 : qexcode c5.fst.snd call M (g6 x 2 400) (st 0 (nest 0)) = qexcode d1 call M (g6 x 2 400) (st 0 (nest 0)) := qcond_true c5c (g6_at x 2 400)
  rw [e1, qseq_nor d1_seq (p7 x 2 400 _)]
  have e2 : qexcode d1.snd call M (g7 x 2 400) (st 0 (nest 0)) = qblockK 0 (qiter M body (g7 x 2 400) (st 0 (nest 0))) := qblock_loop lp_mk
  rw [e2]
  have h0 : qiter M body _ _ = qiter 999960 body _ _ := iter_rounds 40 999960 body _ _ (step2_0 x)
  rw [h0]
  have h1 : qiter 999960 body _ _ = qiter 999920 body _ _ := iter_rounds 40 999920 body _ _ (step2_1 x)
  rw [h1]
  have h2 : qiter 999920 body _ _ = qiter 999880 body _ _ := iter_rounds 40 999880 body _ _ (step2_2 x)
  rw [h2]
  have h3 : qiter 999880 body _ _ = qiter 999840 body _ _ := iter_rounds 40 999840 body _ _ (step2_3 x)
  rw [h3]
  have h4 : qiter 999840 body _ _ = qiter 999800 body _ _ := iter_rounds 40 999800 body _ _ (step2_4 x)
  rw [h4]
  have h5 : qiter 999800 body _ _ = qiter 999760 body _ _ := iter_rounds 40 999760 body _ _ (step2_5 x)
  rw [h5]
  have h6 : qiter 999760 body _ _ = qiter 999720 body _ _ := iter_rounds 40 999720 body _ _ (step2_6 x)
  rw [h6]
  have h7 : qiter 999720 body _ _ = qiter 999680 body _ _ := iter_rounds 40 999680 body _ _ (step2_7 x)
  rw [h7]
  have h8 : qiter 999680 body _ _ = qiter 999640 body _ _ := iter_rounds 40 999640 body _ _ (step2_8 x)
  rw [h8]
  have h9 : qiter 999640 body _ _ = qiter 999600 body _ _ := iter_rounds 40 999600 body _ _ (step2_9 x)
  rw [h9]
  exact end2 x
end Go.Proofs.Ytjnejkganejdbaa.termGreat
