/- The message of bytes: the law. -/
import Derived.Test.YtlgdoglffddjfaaPa
import Derived.Test.YtlgdoglffddjfaaLMsgS
namespace Go.Proofs.YtlgdoglffddjfaaD
open Go Go.Proofs.YtlgdoglffddjfaaS Go.Proofs
set_option linter.unusedVariables false
set_option linter.unusedSimpArgs false
section
variable {X : Type}
theorem reads_eq {k : Nat} (K : Bool → Option X) (hk : 1000000 < k) (b : List Int) (hb : Byt b) : f4 k K (by8 b) = K true := by
  unfold f4 f4_A f4_T
  refine (alive_eq _ (by omega)).trans ?_
  refine (bifF rfl).trans ?_
  rw [by8_length]
  by_cases hl : (b.length : Int) > 4000
  · exact bifT (decide_eq_true hl)
  refine (bifF (decide_eq_false hl)).trans ?_
  refine (read_eq _ b hb hk (by omega)).trans ?_
  unfold ResR
  refine (refRead_eq _ b hb hk (by omega)).trans ?_
  unfold ResR
  have sm := (msgR_sm (k := k) hb (by omega) hk).1
  generalize msgR k b = r at sm ⊢
  obtain ⟨e, m⟩ := r
  dsimp only at sm ⊢
  have g0 := gtB hb 0
  have g2 := gtB hb 2
  have g3 := gtB hb 3
  have hJ1 : f4_J1 (fun X => @f9 X k) (fun X => @f14 X k) (fun X => @f15 X k) (fun X => @f16 X k) (fun X => @f17 X k) k K (m.kind, m.code, m.id, m.tok.length, m.opts.length, m.body.length, e, by8 m.tok, ops m.opts, by8 m.body) (m.kind, m.code, m.id, m.tok.length, m.opts.length, m.body.length, e, by8 m.tok, ops m.opts, by8 m.body) () = K true := by
    unfold f4_J1
    refine (bifT (beq_self_eq_true _)).trans ?_
    dsimp only
    rw [cvR m]
    refine (refSame_eq _ m m hk sm).trans ?_
    rw [decide_eq_true rfl]
  have hJ2 : f4_J2 (fun X => @f9 X k) (fun X => @f14 X k) (fun X => @f15 X k) (fun X => @f16 X k) (fun X => @f17 X k) k K (m.kind, m.code, m.id, m.tok.length, m.opts.length, m.body.length, e, by8 m.tok, ops m.opts, by8 m.body) (m.kind, m.code, m.id, m.tok.length, m.opts.length, m.body.length, e, by8 m.tok, ops m.opts, by8 m.body) () = K true := by
    unfold f4_J2
    refine (bifT (beq_self_eq_true _)).trans ?_
    dsimp only
    rw [cvR m]
    refine (refSame_eq _ m m hk sm).trans ?_
    rw [decide_eq_true rfl]
  by_cases h : NoHead b
  · refine (sniff_no _ b hb h).trans ?_
    by_cases h4 : b.length < 4
    · refine (bifF (decide_eq_false (by omega))).trans ?_
      exact hJ2
    · refine (bifT (decide_eq_true (by omega))).trans ?_
      refine (bAt (gtE (by omega)) _).trans ?_
      refine (grdT rfl).trans ?_
      rw [toI8, and192 g0.1 g0.2, decide_eq_false (fun e => h.elim h4 (fun h => h e))]
      exact hJ1
  · have h4 : ¬ b.length < 4 := fun e => h (.inl e)
    have h1 : gt b 0 / 64 = 1 := Classical.byContradiction fun e => h (.inr e)
    refine (sniff_yes _ b hb h).trans ?_
    refine (bifT (decide_eq_true (by omega))).trans ?_
    refine (bAt (gtE (by omega)) _).trans ?_
    refine (grdT rfl).trans ?_
    rw [toI8, and192 g0.1 g0.2, decide_eq_true h1]
    refine (bifF rfl).trans ?_
    refine (bifF rfl).trans ?_
    refine (bifT rfl).trans ?_
    refine (bAt (gtE (by omega)) _).trans ?_
    refine (grdT rfl).trans ?_
    rw [toI8, and48 g0.1 g0.2]
    refine (bifF (bne_self_eq_false _)).trans ?_
    refine (bAt (gtE (by omega)) _).trans ?_
    refine (grdT rfl).trans ?_
    refine (bAt (gtE (by omega)) _).trans ?_
    refine (grdT rfl).trans ?_
    rw [toI8, toI8, wrap64 (n := gt b 2) (by omega) (by omega), wrap64 (n := gt b 3) (by omega) (by omega), wrap64 (n := gt b 2 * 256) (by omega) (by omega), wrap64 (n := gt b 2 * 256 + gt b 3) (by omega) (by omega)]
    refine (bifF (bne_self_eq_false _)).trans ?_
    exact hJ1
theorem law_reads (x0 : List Int) (w0 : x0.length ≤ maxLen ∧ ∀ y ∈ x0, (Lit.int .u8 y).wf = true) : ∃ k, ∀ K : Bool → Option Out, f4 k K (x0.map fun y => .int .u8 y) = K true :=
  ⟨2000000, fun K => reads_eq K (by omega) x0 (wfByt w0.2)⟩
end
end Go.Proofs.YtlgdoglffddjfaaD
