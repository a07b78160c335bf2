/- The document's examples; messages as bytes: the law. -/
import Derived.Test.YtlgdoglffddjfaaLMsgV
namespace Go.Proofs.YtlgdoglffddjfaaD
open Go Go.Proofs.YtlgdoglffddjfaaS Go.Proofs
set_option linter.unusedVariables false
set_option linter.unusedSimpArgs false
section
variable {X : Type}
set_option maxRecDepth 100000 in
theorem alive_eq {k : Nat} (K : Bool → Option X) (hk : 100 < k) : f9 k K = K true := by
  obtain ⟨k, rfl⟩ : ∃ j, k = j + 60 := ⟨k - 60, by omega⟩
  clear hk
  kernel_rfl
theorem writes_eq {k : Nat} (K : Bool → Option X) (hk : 1000000 < k) (m : Ms) : f3 k K m.cv = K true := by
  unfold f3 f3_A f3_T
  refine (grdT rfl).trans ?_
  refine (grdT rfl).trans ?_
  refine (grdT rfl).trans ?_
  refine (grdT rfl).trans ?_
  refine (grdT rfl).trans ?_
  refine (grdT rfl).trans ?_
  refine (grdT rfl).trans ?_
  refine (alive_eq _ (by omega)).trans ?_
  refine (bifF rfl).trans ?_
  refine (few_eq _ m (by omega)).trans ?_
  cases h : few m with
  | false => exact bifT rfl
  | true =>
    refine (bifF rfl).trans ?_
    have fl := few_len h
    refine (write_eq _ m hk (by omega)).trans ?_
    unfold Res
    refine (refWrite_eq _ m hk (by omega)).trans ?_
    unfold Res
    dsimp only
    refine (bifT (beq_self_eq_true _)).trans ?_
    rw [d8]
    have := msgW_len m
    refine (same_eq _ _ _ (by omega) (by omega)).trans ?_
    rw [decide_eq_true rfl]
abbrev MsX : Type := Int × Int × Int × List Int × List (Int × List Int × Unit) × List Int × Unit
def toMs (x0 : MsX) : Ms := ⟨x0.1, x0.2.1, x0.2.2.1, x0.2.2.2.1, x0.2.2.2.2.1.map fun x => (x.1, x.2.1), x0.2.2.2.2.2.1⟩
def WfX (x0 : MsX) : Prop := (Lit.int .i64 x0.1).wf = true ∧ (Lit.int .i64 x0.2.1).wf = true ∧ (Lit.int .i64 x0.2.2.1).wf = true ∧ (x0.2.2.2.1.length ≤ maxLen ∧ ∀ y ∈ x0.2.2.2.1, (Lit.int .u8 y).wf = true) ∧ (x0.2.2.2.2.1.length ≤ maxLen ∧ ∀ x ∈ x0.2.2.2.2.1, (Lit.int .i64 x.1).wf = true ∧ (x.2.1.length ≤ maxLen ∧ ∀ y ∈ x.2.1, (Lit.int .u8 y).wf = true) ∧ True) ∧ (x0.2.2.2.2.2.1.length ≤ maxLen ∧ ∀ y ∈ x0.2.2.2.2.2.1, (Lit.int .u8 y).wf = true) ∧ True
theorem toMs_cv (x0 : MsX) : (toMs x0).cv = .agg [.int .i64 x0.1, .int .i64 x0.2.1, .int .i64 x0.2.2.1, .slc none (x0.2.2.2.1.map fun y => .int .u8 y), .slc (some 2) (x0.2.2.2.2.1.map fun x => .agg [.int .i64 x.1, .slc none (x.2.1.map fun y => .int .u8 y)]), .slc none (x0.2.2.2.2.2.1.map fun y => .int .u8 y)] := by
  unfold toMs Ms.cv ops opv by8
  rw [List.map_map]; rfl
theorem law_writes (x0 : MsX) (_ : WfX x0) : ∃ k, ∀ K : Bool → Option Out, f3 k K (.agg [.int .i64 x0.1, .int .i64 x0.2.1, .int .i64 x0.2.2.1, .slc none (x0.2.2.2.1.map fun y => .int .u8 y), .slc (some 2) (x0.2.2.2.2.1.map fun x => .agg [.int .i64 x.1, .slc none (x.2.1.map fun y => .int .u8 y)]), .slc none (x0.2.2.2.2.2.1.map fun y => .int .u8 y)]) = K true :=
  ⟨2000000, fun K => by rw [← toMs_cv]; exact writes_eq K (by omega) _⟩
end
end Go.Proofs.YtlgdoglffddjfaaD
