/- The document's examples; what comes in; lists as bytes: the law. -/
import Derived.Test.YtkkknhfbcflkfaaPd
namespace Go.Proofs.YtkkknhfbcflkfaaD
open Go Go.Proofs.YtkkknhfbcflkfaaS Go.Proofs
set_option linter.unusedVariables false
set_option linter.unusedSimpArgs false
section
variable {X : Type}
set_option maxRecDepth 100000 in
theorem alive_eq {k : Nat} (K : Bool → Option X) (hk : 1000 < k) : f9 k K = K true := by
  obtain ⟨k, rfl⟩ : ∃ j, k = j + 200 := ⟨k - 200, by omega⟩
  clear hk
  kernel_rfl
/-- What comes in fits its types. -/
def TS.wf : TS → Prop
  | .nil => True
  | .cons k i v ks r => (Lit.int .i64 k).wf = true ∧ (Lit.int .i64 i).wf = true ∧ (v.length ≤ maxLen ∧ ∀ y ∈ v, (Lit.int .u8 y).wf = true) ∧ (ks.len ≤ maxLen ∧ ks.wf) ∧ r.wf
def TS.ofL : List (Int × Int × List Int × TS × Unit) → TS
  | [] => .nil
  | a :: l => .cons a.1 a.2.1 a.2.2.1 a.2.2.2.1 (ofL l)
theorem ofL_row : ∀ l : List (Int × Int × List Int × TS × Unit), (TS.ofL l).row = l.map fun a => .agg [.int .i64 a.1, .int .i64 a.2.1, .slc none (a.2.2.1.map fun y => .int .u8 y), .slc (some 4) a.2.2.2.1.row]
  | [] => rfl
  | a :: l => by simp [TS.ofL, TS.row, ofL_row l, by8]
theorem ofL_len : ∀ l : List (Int × Int × List Int × TS × Unit), (TS.ofL l).len = l.length
  | [] => rfl
  | a :: l => by simp [TS.ofL, TS.len, ofL_len l]
theorem ofL_wf : ∀ l : List (Int × Int × List Int × TS × Unit), (∀ a ∈ l, (Lit.int .i64 a.1).wf = true ∧ (Lit.int .i64 a.2.1).wf = true ∧ (a.2.2.1.length ≤ maxLen ∧ ∀ y ∈ a.2.2.1, (Lit.int .u8 y).wf = true) ∧ (a.2.2.2.1.len ≤ maxLen ∧ a.2.2.2.1.wf) ∧ True) → (TS.ofL l).wf
  | [], _ => trivial
  | a :: l, h => by
    obtain ⟨h1, h2, h3, h4, _⟩ := h a List.mem_cons_self
    exact ⟨h1, h2, h3, h4, ofL_wf l fun b hb => h b (List.mem_cons_of_mem _ hb)⟩
theorem TS.wf.ok : ∀ {ts : TS}, ts.wf → ts.ok
  | .nil, _ => trivial
  | .cons _ _ _ _ _, h => ⟨h.2.2.1.1, h.2.2.2.1.1, h.2.2.2.1.2.ok, h.2.2.2.2.ok⟩
theorem byt_wf {l : List Int} (w : ∀ y ∈ l, (Lit.int .u8 y).wf = true) : Byt l := fun b hb => by
  have := w b hb
  simp [Lit.wf, IntKind.min, IntKind.max, IntKind.signed, IntKind.bits] at this
  omega
theorem writes_eq {k : Nat} (K : Bool → Option X) (ts : TS) (hk : ts.sz + 30000000 < k) (hl : ts.len ≤ 9223372036854775807) (ho : ts.ok) : f3 k K ts.row = K true := by
  unfold f3 f3_A f3_T
  refine (alive_eq _ (by omega)).trans ?_
  refine (bifF rfl).trans ?_
  refine (few_eq _ ts (by omega) hl ho).trans ?_
  cases h : few ts with
  | false => exact bifT rfl
  | true =>
    refine (bifF rfl).trans ?_
    refine (writeT_eq _ ts (by omega) hl ho).trans ?_
    refine (refWrite_eq _ ts (by omega) hl ho).trans ?_
    refine (rightT_eq _ ts (by omega) hl ho).trans ?_
    refine (refRight_eq _ ts (by omega) hl ho).trans ?_
    dsimp only
    rw [rgt_right]
    refine (bifT (beq_self_eq_true _)).trans ?_
    refine (bifT (beq_self_eq_true _)).trans ?_
    rw [d8]
    have := wrT_len ts
    refine (same_eq _ _ _ (by omega) (by omega)).trans ?_
    rw [decide_eq_true rfl]
theorem law_writes (x0 : TS) (w0 : x0.len ≤ maxLen ∧ x0.wf) : ∃ k, ∀ K : Bool → Option Out, f3 k K x0.row = K true :=
  ⟨x0.sz + 30000001, fun K => writes_eq K x0 (by omega) w0.1 w0.2.ok⟩
end
end Go.Proofs.YtkkknhfbcflkfaaD
