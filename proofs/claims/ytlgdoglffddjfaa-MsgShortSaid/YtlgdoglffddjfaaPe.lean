/- The message of bytes: the law. -/
import Derived.Test.YtlgdoglffddjfaaPa
import Derived.Test.YtlgdoglffddjfaaLMsgB
namespace Go.Proofs.YtlgdoglffddjfaaD
open Go Go.Proofs.YtlgdoglffddjfaaS Go.Proofs
set_option linter.unusedVariables false
set_option linter.unusedSimpArgs false
section
variable {X : Type}
theorem reads_eq {k : Nat} (K : Bool → Option X) (hk : 1000000 < k) (b : List Int) (hb : Byt b) : f4 k K (by8 b) = K true := by
  unfold f4 f4_A f4_T
  refine (alive_eq _ (by omega)).trans ?_
  refine (bifF rfl).trans ?_
  rw [by8_length]
  by_cases hl : (b.length : Int) > 4000
  · exact bifT (decide_eq_true hl)
  refine (bifF (decide_eq_false hl)).trans ?_
  refine (read_eq _ b hb hk (by omega)).trans ?_
  unfold ResR
  refine (refRead_eq _ b hb hk (by omega)).trans ?_
  unfold ResR
  have sm := (msgR_sm (k := k) hb (by omega) hk).1
  generalize msgR k b = r at sm ⊢
  obtain ⟨e, m⟩ := r
  dsimp only at sm ⊢
  have g0 := gtB hb 0
  have g2 := gtB hb 2
  have g3 := gtB hb 3
  have hJ1 : f4_J1 (fun X => @f9 X k) (fun X => @f14 X k) (fun X => @f15 X k) (fun X => @f16 X k) (fun X => @f17 X k) k K (m.kind, m.code, m.id, m.tok.length, m.opts.length, m.body.length, e, by8 m.tok, ops m.opts, by8 m.body) (m.kind, m.code, m.id, m.tok.length, m.opts.length, m.body.length, e, by8 m.tok, ops m.opts, by8 m.body) () = K true := by
    unfold f4_J1
    refine (bifT (beq_self_eq_true _)).trans ?_
    dsimp only
    rw [cvR m]
    refine (refSame_eq _ m m hk sm).trans ?_
    rw [decide_eq_true rfl]
  have hJ2 : f4_J2 (fun X => @f9 X k) (fun X => @f14 X k) (fun X => @f15 X k) (fun X => @f16 X k) (fun X => @f17 X k) k K (m.kind, m.code, m.id, m.tok.length, m.opts.length, m.body.length, e, by8 m.tok, ops m.opts, by8 m.body) (m.kind, m.code, m.id, m.tok.length, m.opts.length, m.body.length, e, by8 m.tok, ops m.opts, by8 m.body) () = K true := by
    unfold f4_J2
    refine (bifT (beq_self_eq_true _)).trans ?_
    dsimp only
    rw [cvR m]
    refine (refSame_eq _ m m hk sm).trans ?_
    rw [decide_eq_true rfl]
  by_cases h : NoHead b
  · refine (sniff_no _ b hb h).trans ?_
    by_cases h4 : b.length < 4
    · refine (bifF (decide_eq_false (by omega))).trans ?_
      exact hJ2
    · refine (bifT (decide_eq_true (by omega))).trans ?_
      refine (bAt (gtE (by omega)) _).trans ?_
      refine (grdT rfl).trans ?_
      rw [toI8, and192 g0.1 g0.2, decide_eq_false (fun e => h.elim h4 (fun h => h e))]
      exact hJ1
  · have h4 : ¬ b.length < 4 := fun e => h (.inl e)
    have h1 : gt b 0 / 64 = 1 := Classical.byContradiction fun e => h (.inr e)
    refine (sniff_yes _ b hb h).trans ?_
    refine (bifT (decide_eq_true (by omega))).trans ?_
    refine (bAt (gtE (by omega)) _).trans ?_
    refine (grdT rfl).trans ?_
    rw [toI8, and192 g0.1 g0.2, decide_eq_true h1]
    refine (bifF rfl).trans ?_
    refine (bifF rfl).trans ?_
    refine (bifT rfl).trans ?_
    refine (bAt (gtE (by omega)) _).trans ?_
    refine (grdT rfl).trans ?_
    rw [toI8, and48 g0.1 g0.2]
    refine (bifF (bne_self_eq_false _)).trans ?_
    refine (bAt (gtE (by omega)) _).trans ?_
    refine (grdT rfl).trans ?_
    refine (bAt (gtE (by omega)) _).trans ?_
    refine (grdT rfl).trans ?_
    rw [toI8, toI8, wrap64 (n := gt b 2) (by omega) (by omega), wrap64 (n := gt b 3) (by omega) (by omega), wrap64 (n := gt b 2 * 256) (by omega) (by omega), wrap64 (n := gt b 2 * 256 + gt b 3) (by omega) (by omega)]
    refine (bifF (bne_self_eq_false _)).trans ?_
    exact hJ1
theorem law_reads (x0 : List Int) (w0 : x0.length ≤ maxLen ∧ ∀ y ∈ x0, (Lit.int .u8 y).wf = true) : ∃ k, ∀ K : Bool → Option Out, f4 k K (x0.map fun y => .int .u8 y) = K true :=
  ⟨2000000, fun K => reads_eq K (by omega) x0 (wfByt w0.2)⟩
end
end Go.Proofs.YtlgdoglffddjfaaD
/- Replies; messages that are empty: the laws. -/
namespace Go.Proofs.YtlgdoglffddjfaaD
open Go Go.Proofs.YtlgdoglffddjfaaS Go.Proofs
set_option linter.unusedVariables false
set_option linter.unusedSimpArgs false
section
variable {X : Type}
theorem options_eq {k : Nat} (K : Nat × List CV → Option X) (l : List Op) (hk : 1000 < k) (hl : l.length ≤ 100) (hv : ∀ o ∈ l, o.2.length ≤ 100000) : f42 k K (ops l) = K (l.length, ops l) := by
  refine iterV_spec (T := f42_L1 (fun X => @f37 X k) k K) (fun i => (i, ops l, ((ops l).length : Int), (i : Int), ops (l.take i))) (fun i => K (l.length, ops l)) l.length (fun i rec h hr => ?_) (fun rec => ?_) k 0 (Nat.zero_le _) (by omega)
  · unfold f42_L1 f42_T1
    dsimp only
    refine (bifT (decide_eq_true (by rw [ops_length]; omega))).trans ?_
    refine (grdT (dec0 _)).trans ?_
    rw [Int.toNat_natCast]
    refine (bAt (ops_nth l i h) _).trans ?_
    refine (grdT rfl).trans ?_
    refine (grdT rfl).trans ?_
    refine (grdT rfl).trans ?_
    have := hv _ (List.getElem_mem h)
    refine (clone_eq _ _ (by rw [opvL, by8_length]; omega)).trans ?_
    rw [opvL, by8_length, d8, show List.take 1 (List.drop 0 [CV.agg [CV.int .i64 (CV.toI (CV.cellD 0 (opv l[i]))), CV.slc none (by8 l[i].2)]]) = ops [l[i]] from rfl]
    have lt : (l.take i).length = i := by rw [List.length_take]; omega
    have tI : List.take i (ops (l.take i)) = ops (l.take i) := by have := tO (l.take i); rwa [lt] at this
    rw [tI, ← ops_append, List.take_append_getElem h]
    refine (grdT (decide_eq_true (by rw [ops_length]; simp; omega))).trans ?_
    rw [wrap64_s (by omega)]
    exact hr
  · unfold f42_L1 f42_T1
    dsimp only
    refine (bifF (decide_eq_false (by rw [ops_length]; omega))).trans ?_
    rw [List.take_length, Nat.zero_add, tO]
def reply (m : Ms) (code id : Int) (o : List Op) (b : List Int) : Ms := bif m.kind == 0 then ⟨2, code, m.id, m.tok, o, b⟩ else ⟨1, code, id, m.tok, o, b⟩
abbrev OutP := Int × Int × Int × Nat × Nat × Nat × List CV × List CV × List CV
theorem reply_eq {k : Nat} (K : OutP → Option X) (m : Ms) (code id : Int) (o : List Op) (b : List Int) (hk : 1000 < k) (ht : m.tok.length ≤ 1000) (ho : o.length ≤ 100) (hv : ∀ p ∈ o, p.2.length ≤ 100000) (hb : b.length ≤ 100000) :
    f21 k K m.cv code id (ops o) (by8 b) = (fun r : Ms => K (r.kind, r.code, r.id, r.tok.length, r.opts.length, r.body.length, by8 r.tok, ops r.opts, by8 r.body)) (reply m code id o b) := by
  unfold f21 f21_A f21_T
  refine (grdT rfl).trans ?_
  refine (grdT rfl).trans ?_
  refine (grdT rfl).trans ?_
  refine (grdT rfl).trans ?_
  refine (grdT rfl).trans ?_
  refine (grdT rfl).trans ?_
  refine (grdT rfl).trans ?_
  rw [show CV.toL (CV.cellD 3 m.cv) = by8 m.tok from rfl, show CV.toI (CV.cellD 0 m.cv) = m.kind from rfl, show CV.toI (CV.cellD 2 m.cv) = m.id from rfl]
  refine (clone_eq _ _ (by rw [by8_length]; omega)).trans ?_
  refine (options_eq _ o hk ho hv).trans ?_
  refine (clone_eq _ _ (by rw [by8_length]; omega)).trans ?_
  unfold reply f21_J1
  rw [by8_length, by8_length, t8, t8]
  dsimp only
  rw [Nat.zero_add, tO]
  cases m.kind == 0 <;> rfl
abbrev OutQ := Int × Int × Int × List CV × List CV × List CV
theorem replyR_eq {k : Nat} (K : OutQ → Option X) (m : Ms) (code id : Int) (o : List Op) (b : List Int) :
    f22 k K m.cv code id (ops o) (by8 b) = (fun r : Ms => K (r.kind, r.code, r.id, by8 r.tok, ops r.opts, by8 r.body)) (reply m code id o b) := by
  have e : f22 k K m.cv code id (ops o) (by8 b) = (bif m.kind == 0 then K (2, code, m.id, by8 m.tok, ops o, by8 b) else K (1, code, id, by8 m.tok, ops o, by8 b)) := by kernel_rfl
  rw [e]
  unfold reply
  cases m.kind == 0 <;> rfl
theorem reply_sm (m : Ms) (code id : Int) (o : List Op) (b : List Int) (ht : m.tok.length ≤ 1000) (ho : o.length ≤ 100) (hv : ∀ p ∈ o, p.2.length ≤ 100000) (hb : b.length ≤ 100000) : Sm (reply m code id o b) := by
  unfold reply
  cases m.kind == 0 <;> exact ⟨by show m.tok.length ≤ _; omega, hb, by show o.length ≤ _; omega, hv⟩
theorem requestR_eq {k : Nat} (K : Bool → Option X) (m : Ms) : f24 k K m.cv = K (asks m.code) := by
  have e : f24 k K m.cv = (bif decide (m.code ≥ 1) then K (decide (m.code ≤ 31)) else K false) := by kernel_rfl
  rw [e]
  unfold asks
  by_cases h : m.code ≥ 1
  · refine (bifT (decide_eq_true h)).trans (congrArg K ?_)
    exact decide_eq_decide.2 (by omega)
  · refine (bifF (decide_eq_false h)).trans (congrArg K ?_)
    exact (decide_eq_false (by omega)).symm
theorem answerR_eq {k : Nat} (K : Bool → Option X) (m : Ms) : f26 k K m.cv = K (answ m.code) := by
  have e : f26 k K m.cv = (bif decide (m.code ≥ 64) then bif decide (m.code ≤ 95) then K true else bif decide (m.code ≥ 128) then K (decide (m.code ≤ 191)) else K false else bif decide (m.code ≥ 128) then K (decide (m.code ≤ 191)) else K false) := by kernel_rfl
  rw [e]
  unfold answ
  by_cases h : m.code ≥ 64
  · refine (bifT (decide_eq_true h)).trans ?_
    by_cases h2 : m.code ≤ 95
    · refine (bifT (decide_eq_true h2)).trans (congrArg K ?_)
      exact (decide_eq_true (by omega)).symm
    · refine (bifF (decide_eq_false h2)).trans ?_
      by_cases h3 : m.code ≥ 128
      · refine (bifT (decide_eq_true h3)).trans (congrArg K ?_)
        exact decide_eq_decide.2 (by omega)
      · refine (bifF (decide_eq_false h3)).trans (congrArg K ?_)
        exact (decide_eq_false (by omega)).symm
  · refine (bifF (decide_eq_false h)).trans ?_
    refine (bifF (decide_eq_false (by omega))).trans (congrArg K ?_)
    exact (decide_eq_false (by omega)).symm
theorem ack_eq {k : Nat} (K : Int × List CV × List CV × List CV → Option X) (m : Ms) : f19 k K m.cv = K (m.id, [], [], []) := by kernel_rfl
theorem reset_eq {k : Nat} (K : Int × List CV × List CV × List CV → Option X) (id : Int) : f20 k K id = K (id, [], [], []) := by kernel_rfl
def bareM (kind id : Int) : Ms := ⟨kind, 0, id, [], [], []⟩
theorem bareM_sm (kind id : Int) : Sm (bareM kind id) := ⟨by simp [bareM], by simp [bareM], by simp [bareM], fun o ho => by simp [bareM] at ho⟩
theorem replies_eq {k : Nat} (K : Bool → Option X) (hk : 1000000 < k) (m : Ms) (code id : Int) (o : List Op) (b : List Int) : f5 k K m.cv code id (ops o) (by8 b) = K true := by
  unfold f5 f5_A f5_T
  refine (grdT rfl).trans ?_
  refine (grdT rfl).trans ?_
  refine (grdT rfl).trans ?_
  refine (grdT rfl).trans ?_
  refine (grdT rfl).trans ?_
  refine (grdT rfl).trans ?_
  refine (grdT rfl).trans ?_
  refine (alive_eq _ (by omega)).trans ?_
  refine (bifF rfl).trans ?_
  refine (few_eq _ m (by omega)).trans ?_
  cases h : few m with
  | false => exact bifT rfl
  | true =>
    refine (bifF rfl).trans ?_
    have fl := few_len h
    refine (fewO_eq _ o (by omega)).trans ?_
    cases h2 : fewO o with
    | false => exact bifT rfl
    | true =>
      refine (bifF rfl).trans ?_
      have fo : o.length ≤ 40 ∧ ∀ p ∈ o, p.2.length ≤ 400 := by
        simp only [fewO, Bool.and_eq_true, decide_eq_true_eq, List.all_eq_true] at h2
        exact h2
      rw [by8_length]
      by_cases hb : (b.length : Int) > 2000
      · exact bifT (decide_eq_true hb)
      refine (bifF (decide_eq_false hb)).trans ?_
      by_cases c1 : m.code < 0
      · exact bifT (decide_eq_true c1)
      refine (bifF (decide_eq_false c1)).trans ?_
      by_cases c2 : m.code > 255
      · exact bifT (decide_eq_true c2)
      refine (bifF (decide_eq_false c2)).trans ?_
      have hv : ∀ p ∈ o, p.2.length ≤ 100000 := fun p hp => by have := fo.2 p hp; omega
      refine (ack_eq _ m).trans ?_
      refine (reset_eq _ id).trans ?_
      refine (reply_eq _ m code id o b (by omega) (by omega) (by omega) hv (by omega)).trans ?_
      dsimp only
      refine (replyR_eq _ m code id o b).trans ?_
      dsimp only
      rw [cvR (reply m code id o b)]
      refine (refSame_eq _ (reply m code id o b) (reply m code id o b) hk (reply_sm m code id o b (by omega) (by omega) hv (by omega))).trans ?_
      rw [decide_eq_true rfl]
      refine (bifT rfl).trans ?_
      refine (request_eq _ m).trans ?_
      refine (requestR_eq _ m).trans ?_
      refine (bifT (beq_self_eq_true _)).trans ?_
      refine (answer_eq _ m).trans ?_
      refine (answerR_eq _ m).trans ?_
      refine (bifT (beq_self_eq_true _)).trans ?_
      refine (refSame_eq _ (bareM 2 m.id) (bareM 2 m.id) hk (bareM_sm _ _)).trans ?_
      rw [decide_eq_true rfl]
      refine (bifT rfl).trans ?_
      refine (refSame_eq _ (bareM 3 id) (bareM 3 id) hk (bareM_sm _ _)).trans ?_
      rw [decide_eq_true rfl]
theorem ops_of (l : List (Int × List Int × Unit)) : ops (l.map fun x => (x.1, x.2.1)) = l.map fun x => .agg [.int .i64 x.1, .slc none (x.2.1.map fun y => .int .u8 y)] := by
  unfold ops opv by8
  rw [List.map_map]; rfl
theorem law_replies (x0 : MsX) (_ : WfX x0) (x1 : Int) (_ : (Lit.int .i64 x1).wf = true) (x2 : Int) (_ : (Lit.int .i64 x2).wf = true) (x3 : List (Int × List Int × Unit)) (_ : x3.length ≤ maxLen ∧ ∀ x ∈ x3, (Lit.int .i64 x.1).wf = true ∧ (x.2.1.length ≤ maxLen ∧ ∀ y ∈ x.2.1, (Lit.int .u8 y).wf = true) ∧ True) (x4 : List Int) (_ : x4.length ≤ maxLen ∧ ∀ y ∈ x4, (Lit.int .u8 y).wf = true) :
    ∃ k, ∀ K : Bool → Option Out, f5 k K (.agg [.int .i64 x0.1, .int .i64 x0.2.1, .int .i64 x0.2.2.1, .slc none (x0.2.2.2.1.map fun y => .int .u8 y), .slc (some 2) (x0.2.2.2.2.1.map fun x => .agg [.int .i64 x.1, .slc none (x.2.1.map fun y => .int .u8 y)]), .slc none (x0.2.2.2.2.2.1.map fun y => .int .u8 y)]) x1 x2 (x3.map fun x => .agg [.int .i64 x.1, .slc none (x.2.1.map fun y => .int .u8 y)]) (x4.map fun y => .int .u8 y) = K true :=
  ⟨2000000, fun K => by rw [← toMs_cv, ← ops_of]; exact replies_eq K (by omega) _ x1 x2 _ x4⟩
end
end Go.Proofs.YtlgdoglffddjfaaD
/- What is written is read as it; beginnings of it: in plain words. -/
namespace Go.Proofs.YtlgdoglffddjfaaD
open Go Go.Proofs.YtlgdoglffddjfaaS Go.Proofs
set_option linter.unusedVariables false
set_option linter.unusedSimpArgs false
section
variable {X : Type}
theorem msgW_err {m : Ms} (h : (msgW m).1 ≠ 0) : (msgW m).2 = [] := by
  unfold msgW at h ⊢
  split
  · rfl
  · split
    · rfl
    · next h1 h2 =>
      rw [if_neg h1, if_neg h2] at h
      cases hc : (optW m.opts).1 != 0 with
      | true => rfl
      | false => rw [hc] at h; exact absurd rfl h
theorem msgW_ok {m : Ms} (h : (msgW m).1 = 0) : ¬ Bad m ∧ ¬ Long m ∧ flt m.opts = 0 ∧ (msgW m).2 = head m ++ m.tok ++ enc 0 (isort m.opts) ++ tail m.body := by
  unfold msgW at h ⊢
  by_cases h1 : Bad m
  · rw [if_pos h1] at h; exact absurd h (by decide)
  rw [if_neg h1] at h ⊢
  by_cases h2 : Long m
  · rw [if_pos h2] at h; exact absurd h (by decide)
  rw [if_neg h2] at h ⊢
  cases hf : flt m.opts != 0 with
  | true =>
    have e : optW m.opts = (flt m.opts, []) := by unfold optW; rw [hf]; rfl
    rw [e] at h
    have h : (bif flt m.opts != 0 then (flt m.opts, []) else (0, head m ++ m.tok ++ [] ++ tail m.body)).1 = 0 := h
    rw [hf] at h
    have h : flt m.opts = 0 := h
    rw [h] at hf; cases hf
  | false =>
    have e : optW m.opts = (0, enc 0 (isort m.opts)) := by unfold optW; rw [hf]; rfl
    rw [e]
    exact ⟨h1, h2, by simpa using hf, rfl⟩
theorem tail_tl (b : List Int) : Tl (tail b) := by
  unfold tail
  split
  · exact .inl rfl
  · exact .inr ⟨b, rfl⟩
theorem tail_byt {b : List Int} (h : Byt b) : Byt (tail b) := by
  unfold tail
  split
  · exact Byt.nil
  · exact Byt.cons (by omega) h
theorem head_byt {m : Ms} (h : ¬ Bad m) (hl : ¬ Long m) : Byt (head m) := by
  unfold Bad at h
  unfold Long at hl
  exact Byt.cons (by omega) (Byt.cons (by omega) (Byt.cons (by omega) (Byt.cons (by omega) Byt.nil)))
theorem msgW_byt {m : Ms} (hm : BytM m) (h : (msgW m).1 = 0) : Byt (msgW m).2 := by
  obtain ⟨h1, h2, h3, h4⟩ := msgW_ok h
  rw [h4]
  exact ((head_byt h1 h2).app hm.1).app (enc_byt _ 0 (okk_isort h3) (isort_byt hm.2.2)) |>.app (tail_byt hm.2.1)
def sortM (m : Ms) : Ms := ⟨m.kind, m.code, m.id, m.tok, isort m.opts, m.body⟩
theorem bad_code0 {m : Ms} (h : ¬ Bad m) (hc : m.code = 0) : m.tok = [] ∧ m.opts = [] ∧ m.body = [] :=
  Classical.byContradiction fun e => h (.inr (.inr (.inr (.inr (.inr (.inr (.inr ⟨hc, e⟩)))))))
/-- A head, whatever follows it. -/
theorem head_no {m : Ms} (h : ¬ Bad m) (hl : ¬ Long m) (R : List Int) : ¬ NoHead (head m ++ R) ∧ tk (head m ++ R) = m.tok.length ∧ gt (head m ++ R) 0 / 16 % 4 = m.kind ∧ gt (head m ++ R) 1 = m.code ∧ gt (head m ++ R) 2 * 256 + gt (head m ++ R) 3 = m.id := by
  unfold Bad at h
  unfold Long at hl
  have g0 : gt (head m ++ R) 0 = 64 + 16 * m.kind + (m.tok.length : Int) := rfl
  have g1 : gt (head m ++ R) 1 = m.code := rfl
  have g2 : gt (head m ++ R) 2 = m.id / 256 := rfl
  have g3 : gt (head m ++ R) 3 = m.id % 256 := rfl
  unfold NoHead tk
  rw [g0, g1, g2, g3]
  have hhl : (head m ++ R).length = 4 + R.length := by rw [List.length_append]; rfl
  rw [hhl]
  refine ⟨by omega, by omega, by omega, rfl, by omega⟩
theorem used_of {m : Ms} (h : ¬ Bad m) : used m.code = true := by
  cases c : used m.code with
  | true => rfl
  | false => exact absurd (.inr (.inr (.inr (.inr (.inl c))))) h
theorem drop4 (m : Ms) (R : List Int) (n : Nat) : (head m ++ R).drop (4 + n) = R.drop n := by
  have : (head m).length = 4 := rfl
  rw [show 4 + n = (head m).length + n from by omega, List.drop_append, Nat.add_sub_cancel_left, List.drop_of_length_le (by omega), List.nil_append]
theorem back {k : Nat} {m : Ms} (hk : 1000000 < k) (hw : (msgW m).1 = 0) : msgR k (msgW m).2 = (0, sortM m) := by
  obtain ⟨h1, h2, h3, h4⟩ := msgW_ok hw
  have hop := flt_ok h3
  rw [h4]
  have e : head m ++ m.tok ++ enc 0 (isort m.opts) ++ tail m.body = head m ++ (m.tok ++ (enc 0 (isort m.opts) ++ tail m.body)) := by simp
  rw [e]
  obtain ⟨n1, n2, n3, n4, n5⟩ := head_no h1 h2 (m.tok ++ (enc 0 (isort m.opts) ++ tail m.body))
  have hbd : ¬ BadHead (head m ++ (m.tok ++ (enc 0 (isort m.opts) ++ tail m.body))) := by
    unfold BadHead
    rw [n2, n4, used_of h1]
    have hhl : (head m).length = 4 := rfl
    simp only [List.length_append, hhl]
    rintro (c | c | c | c)
    · unfold Long at h2; omega
    · cases c
    · obtain ⟨c0, c1⟩ := c
      obtain ⟨t0, o0, b0⟩ := bad_code0 h1 c0
      rw [t0, o0, b0] at c1
      exact c1 rfl
    · omega
  unfold msgR
  rw [if_neg n1, if_neg hbd, n2, drop4, List.drop_left]
  have rd1 := rd_enc k (isort m.opts) [] 0 [] (tail m.body) (by rw [isort_len]; omega) (okk_isort h3) (by rw [isort_len]; simp; omega) (tail_tl _)
  simp only [List.nil_append, List.length_nil] at rd1
  rw [rd1]
  dsimp only
  rw [if_neg (by simp), List.drop_left]
  have ht : tail m.body = [] ∧ m.body = [] ∨ tail m.body = 255 :: m.body ∧ m.body ≠ [] := by
    unfold tail
    by_cases hb : m.body = []
    · rw [if_pos hb]; exact .inl ⟨rfl, hb⟩
    · rw [if_neg hb]; exact .inr ⟨rfl, hb⟩
  have hdrop : (tail m.body).drop 1 = m.body := by
    rcases ht with ⟨e1, e2⟩ | ⟨e1, e2⟩ <;> rw [e1]
    · rw [e2]; rfl
    · rfl
  have hlen : (tail m.body).length ≠ 1 ∧ (tail m.body).length ≤ 1201 := by
    unfold Long at h2
    rcases ht with ⟨e1, e2⟩ | ⟨e1, e2⟩ <;> rw [e1]
    · simp
    · have := List.length_pos_iff.2 e2
      simp only [List.length_cons]
      omega
  rw [if_neg hlen.1, if_neg (by omega)]
  unfold msB sortM
  rw [n2, n3, n4, n5, hdrop, show (4 : Nat) = 4 + 0 from rfl, drop4, List.drop_zero, List.take_left]
/-- Beginnings of what is written. -/
theorem ends {k : Nat} {m : Ms} (hk : 1000000 < k) (hm : BytM m) (hw : (msgW m).1 = 0) (c : Nat) (hc : c ≤ (msgW m).2.length) :
    (∃ e, e ≠ 0 ∧ msgR k ((msgW m).2.take c) = (e, ms0)) ∨ ∃ n : Ms, msgR k ((msgW m).2.take c) = (0, n) ∧ n.kind = m.kind ∧ n.id = m.id ∧ n.tok = m.tok ∧ (∃ j, n.opts = (isort m.opts).take j) ∧ ∃ i, n.body = m.body.take i := by
  obtain ⟨h1, h2, h3, h4⟩ := msgW_ok hw
  have hop := flt_ok h3
  rw [h4] at hc ⊢
  have e : head m ++ m.tok ++ enc 0 (isort m.opts) ++ tail m.body = head m ++ (m.tok ++ (enc 0 (isort m.opts) ++ tail m.body)) := by simp
  rw [e] at hc ⊢
  have hhl : (head m).length = 4 := rfl
  by_cases hc4 : c < 4
  · exact .inl ⟨20, by decide, msgR_no (.inl (by rw [List.length_take]; omega))⟩
  have et : (head m ++ (m.tok ++ (enc 0 (isort m.opts) ++ tail m.body))).take c = head m ++ (m.tok ++ (enc 0 (isort m.opts) ++ tail m.body)).take (c - 4) := by
    rw [List.take_append, hhl, List.take_of_length_le (by omega)]
  rw [et]
  obtain ⟨n1, n2, n3, n4, n5⟩ := head_no h1 h2 ((m.tok ++ (enc 0 (isort m.opts) ++ tail m.body)).take (c - 4))
  by_cases hbd : BadHead (head m ++ (m.tok ++ (enc 0 (isort m.opts) ++ tail m.body)).take (c - 4))
  · exact .inl ⟨20, by decide, msgR_bad n1 hbd⟩
  have hbd' := hbd
  unfold BadHead at hbd'
  rw [n2, List.length_append, hhl, List.length_take] at hbd'
  simp only [List.length_append, hhl] at hc hbd'
  have ed : ((m.tok ++ (enc 0 (isort m.opts) ++ tail m.body)).take (c - 4)).drop m.tok.length = (enc 0 (isort m.opts) ++ tail m.body).take (c - 4 - m.tok.length) := by
    rw [List.drop_take, List.drop_left]
  have ett : ((m.tok ++ (enc 0 (isort m.opts) ++ tail m.body)).take (c - 4)).take m.tok.length = m.tok := by
    rw [List.take_take, Nat.min_eq_left (by omega), List.take_left]
  unfold msgR
  rw [if_neg n1, if_neg hbd, n2, drop4, ed]
  have tr := rd_trunc k (isort m.opts) [] 0 [] (tail m.body) (c - 4 - m.tok.length) ((Byt.nil.app (enc_byt _ 0 (okk_isort h3) (isort_byt hm.2.2))).app (tail_byt hm.2.1)) (by rw [isort_len]; omega) (okk_isort h3) (by rw [isort_len]; simp; omega) (tail_tl _) (by simp) (by simp only [List.nil_append, List.length_append]; omega)
  simp only [List.nil_append, List.length_nil] at tr
  have hmk : ∀ (os : List Op) (rest : List Int), msB (head m ++ (m.tok ++ (enc 0 (isort m.opts) ++ tail m.body)).take (c - 4)) os rest = ⟨m.kind, m.code, m.id, m.tok, os, rest.drop 1⟩ := fun os rest => by
    unfold msB
    rw [n2, n3, n4, n5, show (4 : Nat) = 4 + 0 from rfl, drop4, List.drop_zero, ett]
  rcases tr with tr | ⟨j, hj, tr⟩ | ⟨hle, tr⟩
  · rw [if_pos tr]
    exact .inl ⟨_, tr, rfl⟩
  · rw [tr]
    dsimp only
    have : ((enc 0 (isort m.opts) ++ tail m.body).take (c - 4 - m.tok.length)).drop (c - 4 - m.tok.length) = [] := List.drop_of_length_le (by rw [List.length_take]; omega)
    rw [this, if_neg (by simp), if_neg (by simp), if_neg (by simp), hmk]
    exact .inr ⟨_, rfl, rfl, rfl, rfl, ⟨j, rfl⟩, 0, rfl⟩
  · rw [tr]
    dsimp only
    have : ((enc 0 (isort m.opts) ++ tail m.body).take (c - 4 - m.tok.length)).drop (enc 0 (isort m.opts)).length = (tail m.body).take (c - 4 - m.tok.length - (enc 0 (isort m.opts)).length) := by
      rw [List.drop_take, List.drop_left]
    rw [this, if_neg (by simp)]
    split
    · exact .inl ⟨20, by decide, rfl⟩
    split
    · exact .inl ⟨2, by decide, rfl⟩
    rw [hmk]
    refine .inr ⟨_, rfl, rfl, rfl, rfl, ⟨(isort m.opts).length, (List.take_length).symm⟩, ?_⟩
    show ∃ i, ((tail m.body).take (c - 4 - m.tok.length - (enc 0 (isort m.opts)).length)).drop 1 = m.body.take i
    generalize c - 4 - m.tok.length - (enc 0 (isort m.opts)).length = q
    unfold tail
    split
    · exact ⟨0, by simp⟩
    · cases q with
      | zero => exact ⟨0, by simp⟩
      | succ q => exact ⟨q, by simp⟩
end
end Go.Proofs.YtlgdoglffddjfaaD
/- Messages that are empty, written and read; beginnings: the laws. -/
namespace Go.Proofs.YtlgdoglffddjfaaD
open Go Go.Proofs.YtlgdoglffddjfaaS Go.Proofs
set_option linter.unusedVariables false
set_option linter.unusedSimpArgs false
section
variable {X : Type}
theorem back_eq {k : Nat} (K : Bool → Option X) (hk : 1000000 < k) (m n : Ms) (hm : BytM m) (hn : BytM n) : f6 k K m.cv n.cv = K true := by
  unfold f6 f6_A f6_T
  refine (grdT rfl).trans ?_
  refine (grdT rfl).trans ?_
  refine (grdT rfl).trans ?_
  refine (grdT rfl).trans ?_
  refine (grdT rfl).trans ?_
  refine (grdT rfl).trans ?_
  refine (grdT rfl).trans ?_
  refine (grdT rfl).trans ?_
  refine (grdT rfl).trans ?_
  refine (grdT rfl).trans ?_
  refine (grdT rfl).trans ?_
  refine (grdT rfl).trans ?_
  refine (grdT rfl).trans ?_
  refine (grdT rfl).trans ?_
  refine (alive_eq _ (by omega)).trans ?_
  refine (bifF rfl).trans ?_
  refine (few_eq _ m (by omega)).trans ?_
  cases h : few m with
  | false => exact bifT rfl
  | true =>
    refine (bifF rfl).trans ?_
    have fl := few_len h
    refine (few_eq _ n (by omega)).trans ?_
    cases h' : few n with
    | false => exact bifT rfl
    | true =>
      refine (bifF rfl).trans ?_
      have sm : Sm m := ⟨by omega, by omega, by omega, fun o ho => by have := fl.2.2.2 o ho; omega⟩
      refine (msgSame_eq _ m n hk (by omega) hm hn).trans ?_
      refine (refSame_eq _ m n hk sm).trans ?_
      refine (bifF (by rw [beq_self_eq_true]; rfl)).trans ?_
      refine (msgSame_eq _ m m hk (by omega) hm hm).trans ?_
      rw [decide_eq_true rfl]
      refine (bifF rfl).trans ?_
      refine (write_eq _ m hk (by omega)).trans ?_
      unfold Res
      by_cases hw : (msgW m).1 = 0
      · refine (bifF (by rw [hw]; rfl)).trans ?_
        dsimp only
        rw [d8]
        have hb := msgW_byt hm hw
        have hl := msgW_len m
        refine (read_eq _ _ hb hk (by omega)).trans ?_
        rw [back hk hw]
        unfold ResR
        dsimp only
        rw [cvR (sortM m)]
        have hso : (sortM m).opts.length = m.opts.length := isort_len _
        refine (write_eq _ (sortM m) hk (by omega)).trans ?_
        have ews : msgW (sortM m) = msgW m := by
          obtain ⟨h1, h2, h3, h4⟩ := msgW_ok hw
          have hop := flt_ok h3
          have b1 : ¬ Bad (sortM m) := fun e => h1 (by
            unfold Bad at e ⊢
            rcases e with e | e | e | e | e | e | e | e
            · exact .inl e
            · exact .inr (.inl e)
            · exact .inr (.inr (.inl e))
            · exact .inr (.inr (.inr (.inl e)))
            · exact .inr (.inr (.inr (.inr (.inl e))))
            · exact .inr (.inr (.inr (.inr (.inr (.inl e)))))
            · exact .inr (.inr (.inr (.inr (.inr (.inr (.inl e))))))
            · refine .inr (.inr (.inr (.inr (.inr (.inr (.inr ⟨e.1, fun e2 => e.2 ⟨e2.1, ?_, e2.2.2⟩⟩))))))
              show isort m.opts = []
              rw [e2.2.1]; rfl)
          have b2 : ¬ Long (sortM m) := h2
          have f0 : flt (isort m.opts) = 0 := by
            unfold flt
            rw [show decide (24 < (isort m.opts).length) = false from decide_eq_false (by rw [isort_len]; omega)]
            rw [show (isort m.opts).any pF = false from List.any_eq_false.2 fun o ho => by
              have := hop.2 o (isort_mem.1 ho)
              simp only [pF, Bool.or_eq_true, decide_eq_true_eq]; omega]
            rw [show (isort m.opts).any qF = false from List.any_eq_false.2 fun o ho => by
              have := hop.2 o (isort_mem.1 ho)
              simp only [qF, decide_eq_true_eq]; omega]
            rfl
          have e1 : optW m.opts = (0, enc 0 (isort m.opts)) := by unfold optW; rw [h3]; rfl
          have e2 : optW (isort m.opts) = (0, enc 0 (isort m.opts)) := by
            unfold optW
            rw [f0, show isort (isort m.opts) = isort m.opts from uniq (isort_srt _) (isort_srt _) (isort_flt _).symm]; rfl
          unfold msgW
          rw [if_neg b1, if_neg b2, if_neg h1, if_neg h2, e1, show (sortM m).opts = isort m.opts from rfl, e2]
          rfl
        rw [ews]
        unfold Res
        refine (sorted_eq _ m.opts (by omega) (fun o ho => by have := fl.2.2.2 o ho; omega) (by omega)).trans ?_
        dsimp only
        rw [d8]
        obtain ⟨h1, h2, h3, h4⟩ := msgW_ok hw
        have e4 : (msgW m).2 = head m ++ (m.tok ++ (enc 0 (isort m.opts) ++ tail m.body)) := by rw [h4]; simp
        obtain ⟨n1, n2, n3, n4, n5⟩ := head_no h1 h2 (m.tok ++ (enc 0 (isort m.opts) ++ tail m.body))
        rw [← e4] at n1 n3 n4 n5
        refine (sniff_yes _ _ hb n1).trans ?_
        refine (bifT rfl).trans ?_
        refine (bifT (by rw [hw]; rfl)).trans ?_
        have es : CV.agg [.int .i64 (CV.toI (CV.cellD 0 m.cv)), .int .i64 (CV.toI (CV.cellD 1 m.cv)), .int .i64 (CV.toI (CV.cellD 2 m.cv)), .slc none (CV.toL (CV.cellD 3 m.cv)), .slc (some 2) (List.take m.opts.length (List.drop 0 (ops (isort m.opts)))), .slc none (CV.toL (CV.cellD 5 m.cv))] = (sortM m).cv := by
          have := dO (isort m.opts)
          rw [isort_len] at this
          rw [this]; rfl
        rw [es]
        have sms : Sm (sortM m) := ⟨sm.1, sm.2.1, by omega, fun o ho => sm.2.2.2 o (isort_mem.1 ho)⟩
        refine (refSame_eq _ (sortM m) (sortM m) hk sms).trans ?_
        rw [decide_eq_true rfl]
        refine (bifT rfl).trans ?_
        refine (same_eq _ _ _ (by omega) (by omega)).trans ?_
        rw [decide_eq_true rfl]
        refine (bifT rfl).trans ?_
        refine (bifT rfl).trans ?_
        rw [n3, n5]
        refine (bifT (beq_iff_eq.2 rfl)).trans ?_
        exact congrArg K (beq_iff_eq.2 rfl)
      · refine (bifT (bne_iff_ne.2 hw)).trans ?_
        dsimp only
        rw [msgW_err hw]; rfl
theorem ends_eq {k : Nat} (K : Bool → Option X) (hk : 1000000 < k) (m : Ms) (cut : Int) (hm : BytM m) : f7 k K m.cv cut = K true := by
  unfold f7 f7_A f7_T
  refine (grdT rfl).trans ?_
  refine (grdT rfl).trans ?_
  refine (grdT rfl).trans ?_
  refine (grdT rfl).trans ?_
  refine (grdT rfl).trans ?_
  refine (grdT rfl).trans ?_
  refine (grdT rfl).trans ?_
  refine (alive_eq _ (by omega)).trans ?_
  refine (bifF rfl).trans ?_
  refine (few_eq _ m (by omega)).trans ?_
  cases h : few m with
  | false => exact bifT rfl
  | true =>
    refine (bifF rfl).trans ?_
    have fl := few_len h
    refine (write_eq _ m hk (by omega)).trans ?_
    unfold Res
    by_cases hw : (msgW m).1 = 0
    · refine (bifF (by rw [hw]; rfl)).trans ?_
      dsimp only
      have hb := msgW_byt hm hw
      have hl := msgW_len m
      have hl4 : 4 ≤ (msgW m).2.length := by
        obtain ⟨h1, h2, h3, h4⟩ := msgW_ok hw
        rw [h4]
        have : (head m).length = 4 := rfl
        simp only [List.length_append]; omega
      rw [show bop .and .i64 cut 4095 = cut % 4096 from bop_mask64 cut 12 (by decide), tmod_eq (by omega), by8_length]
      have m0 : 0 ≤ cut % 4096 % ((msgW m).2.length : Int) := Int.emod_nonneg _ (by omega)
      have m1 : cut % 4096 % ((msgW m).2.length : Int) < ((msgW m).2.length : Int) := Int.emod_lt_of_pos _ (by omega)
      generalize cut % 4096 % ((msgW m).2.length : Int) = v at m0 m1 ⊢
      obtain ⟨c, rfl⟩ := Int.eq_ofNat_of_zero_le m0
      refine (grdT (bne_iff_ne.2 (by omega))).trans ?_
      refine (grdT (dec0 _)).trans ?_
      refine (grdT (decide_eq_true (by omega))).trans ?_
      rw [Int.toNat_natCast, Nat.sub_zero, show List.drop 0 (by8 (msgW m).2) = by8 (msgW m).2 from rfl, by8_take]
      refine (read_eq _ _ (hb.take c) hk (by rw [List.length_take]; omega)).trans ?_
      rcases ends hk hm hw c (by omega) with ⟨e, he, hr⟩ | ⟨n, hr, ek, ei, et, ⟨j, eo⟩, i, eb⟩
      · rw [hr]
        unfold ResR
        refine (bifT (bne_iff_ne.2 he)).trans ?_
        rfl
      · rw [hr]
        unfold ResR
        refine (bifF rfl).trans ?_
        dsimp only
        refine (sorted_eq _ m.opts (by omega) (fun o ho => by have := fl.2.2.2 o ho; omega) (by omega)).trans ?_
        rw [ek, ei]
        refine (bifF (bne_self_eq_false _)).trans ?_
        refine (bifF (bne_self_eq_false _)).trans ?_
        have lo : n.opts.length ≤ m.opts.length := by
          rw [eo, List.length_take, isort_len]; omega
        have lb : n.body.length ≤ m.body.length := by
          rw [eb, List.length_take]; omega
        refine (bifF (decide_eq_false (by show ¬ (n.opts.length : Int) > (m.opts.length : Int); omega))).trans ?_
        refine (bifF (decide_eq_false (by show ¬ (n.body.length : Int) > ((by8 m.body).length : Int); rw [by8_length]; omega))).trans ?_
        rw [d8 n.body, show CV.toL (CV.cellD 3 m.cv) = by8 m.tok from rfl, show CV.toL (CV.cellD 5 m.cv) = by8 m.body from rfl, et, d8 m.tok]
        refine (same_eq _ m.tok m.tok (by omega) (by omega)).trans ?_
        rw [decide_eq_true rfl]
        refine (bifF rfl).trans ?_
        dsimp only
        refine (grdT (decide_eq_true (by rw [ops_length, isort_len]; omega))).trans ?_
        rw [dO n.opts, Nat.sub_zero, Nat.sub_zero, List.drop_zero, List.drop_zero]
        have eo2 : List.take n.opts.length (ops (isort m.opts)) = ops n.opts := by
          unfold ops
          rw [← List.map_take]
          have : (isort m.opts).take n.opts.length = n.opts := by rw [eo, List.length_take, ← List.take_take, List.take_length]
          rw [this]
        rw [eo2]
        refine (refSameO_eq _ n.opts n.opts hk (by omega) (fun o ho => by
          rw [eo] at ho
          have := fl.2.2.2 o (isort_mem.1 (List.mem_of_mem_take ho)); omega)).trans ?_
        rw [decide_eq_true rfl]
        refine (bifT rfl).trans ?_
        rw [by8_length]
        refine (grdT (decide_eq_true (by omega))).trans ?_
        rw [by8_take]
        have eb2 : m.body.take n.body.length = n.body := by
          rw [eb, List.length_take, ← List.take_take, List.take_length]
        rw [eb2]
        refine (same_eq _ _ _ (by omega) (by omega)).trans ?_
        rw [decide_eq_true rfl]
    · exact bifT (bne_iff_ne.2 hw)
theorem bareM_byt (kind id : Int) : BytM (bareM kind id) := ⟨Byt.nil, Byt.nil, fun o ho => by simp [bareM] at ho⟩
theorem short_step {k : Nat} (K : Bool → Option X) (hk : 1000000 < k) (rec : Int × Int × List CV → Option X) (rows : List CV) (kind id : Int) (i : Nat) (hi : i < 2) (hkd : kind = 2 ∨ kind = 3) (hr : rows[i]? = some (bareM kind id).cv) :
    f8_T1 (fun X => @f9 X k) (fun X => @f10 X k) (fun X => @f19 X k) (fun X => @f20 X k) (fun X => @f11 X k) (fun X => @f14 X k) (fun X => @f27 X k) (fun X => @f23 X k) (fun X => @f25 X k) k K rec (id, (i : Int), rows) = rec (id, ((i + 1 : Nat) : Int), rows) := by
  have hJ : f8_J1 (fun X => @f9 X k) (fun X => @f10 X k) (fun X => @f19 X k) (fun X => @f20 X k) (fun X => @f11 X k) (fun X => @f14 X k) (fun X => @f27 X k) (fun X => @f23 X k) (fun X => @f25 X k) k K rec (id, (i : Int), rows) () = rec (id, ((i + 1 : Nat) : Int), rows) := by
    unfold f8_J1
    dsimp only
    rw [wrap64_s (by omega)]
  unfold f8_T1
  dsimp only
  refine (bifT (decide_eq_true (by omega))).trans ?_
  refine (grdT (dec0 _)).trans ?_
  refine (grdT (decide_eq_true (by omega))).trans ?_
  rw [Int.toNat_natCast, Nat.zero_add]
  refine (bAt hr _).trans ?_
  refine (grdT rfl).trans ?_
  refine (grdT rfl).trans ?_
  refine (grdT rfl).trans ?_
  refine (grdT rfl).trans ?_
  refine (grdT rfl).trans ?_
  refine (grdT rfl).trans ?_
  refine (grdT rfl).trans ?_
  refine (write_eq _ (bareM kind id) hk (by simp [bareM])).trans ?_
  unfold Res
  dsimp only
  by_cases c1 : id < 0
  · have hb : Bad (bareM kind id) := .inr (.inr (.inr (.inr (.inr (.inl c1)))))
    rw [msgW_bad hb]
    refine (bifT (decide_eq_true c1)).trans ?_
    refine (bifF rfl).trans ?_
    refine (bifF rfl).trans ?_
    exact hJ
  refine (bifF (decide_eq_false c1)).trans ?_
  by_cases c2 : id > 65535
  · have hb : Bad (bareM kind id) := .inr (.inr (.inr (.inr (.inr (.inr (.inl c2))))))
    rw [msgW_bad hb]
    refine (bifT (decide_eq_true c2)).trans ?_
    refine (bifF rfl).trans ?_
    refine (bifF rfl).trans ?_
    exact hJ
  refine (bifF (decide_eq_false c2)).trans ?_
  have nb : ¬ Bad (bareM kind id) := by
    unfold Bad bareM
    dsimp only
    rintro (c | c | c | c | c | c | c | c)
    · omega
    · omega
    · omega
    · omega
    · exact absurd c (by decide)
    · exact c1 c
    · exact c2 c
    · exact c.2 ⟨rfl, rfl, rfl⟩
  have nl : ¬ Long (bareM kind id) := by
    unfold Long bareM
    simp
  have ew : msgW (bareM kind id) = (0, head (bareM kind id)) := by
    unfold msgW
    rw [if_neg nb, if_neg nl]; rfl
  have hw : (msgW (bareM kind id)).1 = 0 := by rw [ew]
  have hb := msgW_byt (bareM_byt kind id) hw
  have bk := back (k := k) hk hw
  rw [ew] at hb bk ⊢
  dsimp only at hb bk ⊢
  rw [d8]
  refine (read_eq _ _ hb hk (by rw [show (head (bareM kind id)).length = 4 from rfl]; omega)).trans ?_
  rw [bk, show sortM (bareM kind id) = bareM kind id from rfl]
  unfold ResR
  refine (bifF rfl).trans ?_
  refine (bifF rfl).trans ?_
  refine (bifF rfl).trans ?_
  dsimp only
  rw [cvR (bareM kind id)]
  refine (msgSame_eq _ (bareM kind id) (bareM kind id) hk (by simp [bareM]) (bareM_byt _ _) (bareM_byt _ _)).trans ?_
  rw [decide_eq_true rfl]
  refine (bifF rfl).trans ?_
  refine (request_eq _ (bareM kind id)).trans ?_
  refine (bifF rfl).trans ?_
  refine (answer_eq _ (bareM kind id)).trans ?_
  refine (bifF rfl).trans ?_
  refine (bifF (bne_self_eq_false _)).trans ?_
  exact hJ
theorem short_eq {k : Nat} (K : Bool → Option X) (hk : 1000000 < k) (m : Ms) (id : Int) : f8 k K m.cv id = K true := by
  unfold f8 f8_A f8_T
  refine (grdT rfl).trans ?_
  refine (grdT rfl).trans ?_
  refine (grdT rfl).trans ?_
  refine (grdT rfl).trans ?_
  refine (grdT rfl).trans ?_
  refine (grdT rfl).trans ?_
  refine (grdT rfl).trans ?_
  refine (alive_eq _ (by omega)).trans ?_
  refine (bifF rfl).trans ?_
  refine (few_eq _ m (by omega)).trans ?_
  cases h : few m with
  | false => exact bifT rfl
  | true =>
    refine (bifF rfl).trans ?_
    refine (ack_eq _ (⟨m.kind, m.code, id, m.tok, m.opts, m.body⟩ : Ms)).trans ?_
    refine (reset_eq _ id).trans ?_
    obtain ⟨k, rfl⟩ : ∃ j, k = j + 3 := ⟨k - 3, by omega⟩
    show iterV (f8_L1 (fun X => @f9 X (k + 3)) (fun X => @f10 X (k + 3)) (fun X => @f19 X (k + 3)) (fun X => @f20 X (k + 3)) (fun X => @f11 X (k + 3)) (fun X => @f14 X (k + 3)) (fun X => @f27 X (k + 3)) (fun X => @f23 X (k + 3)) (fun X => @f25 X (k + 3)) (k + 3) K) (k + 3) (id, ((0 : Nat) : Int), [(bareM 2 id).cv, (bareM 3 id).cv]) = K true
    refine (iterV_one _ _ _).trans ?_
    refine (short_step (k := k + 3) K hk _ [(bareM 2 id).cv, (bareM 3 id).cv] 2 id 0 (by omega) (.inl rfl) rfl).trans ?_
    refine (iterV_one _ _ _).trans ?_
    refine (short_step (k := k + 3) K hk _ [(bareM 2 id).cv, (bareM 3 id).cv] 3 id 1 (by omega) (.inr rfl) rfl).trans ?_
    refine (iterV_one _ _ _).trans ?_
    rfl
theorem toMs_byt {x0 : MsX} (w : WfX x0) : BytM (toMs x0) := by
  obtain ⟨_, _, _, w4, w5, w6, _⟩ := w
  refine ⟨wfByt w4.2, wfByt w6.2, fun o ho => ?_⟩
  obtain ⟨x, hx, rfl⟩ := List.mem_map.1 ho
  exact wfByt (w5.2 x hx).2.1.2
theorem law_back (x0 : MsX) (w0 : WfX x0) (x1 : MsX) (w1 : WfX x1) : ∃ k, ∀ K : Bool → Option Out, f6 k K (.agg [.int .i64 x0.1, .int .i64 x0.2.1, .int .i64 x0.2.2.1, .slc none (x0.2.2.2.1.map fun y => .int .u8 y), .slc (some 2) (x0.2.2.2.2.1.map fun x => .agg [.int .i64 x.1, .slc none (x.2.1.map fun y => .int .u8 y)]), .slc none (x0.2.2.2.2.2.1.map fun y => .int .u8 y)]) (.agg [.int .i64 x1.1, .int .i64 x1.2.1, .int .i64 x1.2.2.1, .slc none (x1.2.2.2.1.map fun y => .int .u8 y), .slc (some 2) (x1.2.2.2.2.1.map fun x => .agg [.int .i64 x.1, .slc none (x.2.1.map fun y => .int .u8 y)]), .slc none (x1.2.2.2.2.2.1.map fun y => .int .u8 y)]) = K true :=
  ⟨2000000, fun K => by rw [← toMs_cv, ← toMs_cv]; exact back_eq K (by omega) _ _ (toMs_byt w0) (toMs_byt w1)⟩
theorem law_ends (x0 : MsX) (w0 : WfX x0) (x1 : Int) (_ : (Lit.int .i64 x1).wf = true) : ∃ k, ∀ K : Bool → Option Out, f7 k K (.agg [.int .i64 x0.1, .int .i64 x0.2.1, .int .i64 x0.2.2.1, .slc none (x0.2.2.2.1.map fun y => .int .u8 y), .slc (some 2) (x0.2.2.2.2.1.map fun x => .agg [.int .i64 x.1, .slc none (x.2.1.map fun y => .int .u8 y)]), .slc none (x0.2.2.2.2.2.1.map fun y => .int .u8 y)]) x1 = K true :=
  ⟨2000000, fun K => by rw [← toMs_cv]; exact ends_eq K (by omega) _ _ (toMs_byt w0)⟩
theorem law_short (x0 : MsX) (w0 : WfX x0) (x1 : Int) (_ : (Lit.int .i64 x1).wf = true) : ∃ k, ∀ K : Bool → Option Out, f8 k K (.agg [.int .i64 x0.1, .int .i64 x0.2.1, .int .i64 x0.2.2.1, .slc none (x0.2.2.2.1.map fun y => .int .u8 y), .slc (some 2) (x0.2.2.2.2.1.map fun x => .agg [.int .i64 x.1, .slc none (x.2.1.map fun y => .int .u8 y)]), .slc none (x0.2.2.2.2.2.1.map fun y => .int .u8 y)]) x1 = K true :=
  ⟨2000000, fun K => by rw [← toMs_cv]; exact short_eq K (by omega) _ _⟩
end
end Go.Proofs.YtlgdoglffddjfaaD
