/- Watches: the laws, as what comes in is read. -/
import Derived.Test.YthlaobnnhghcfaaPf
namespace Go.Proofs.YthlaobnnhghcfaaD
open Go Go.Proofs.YthlaobnnhghcfaaS Go.Proofs
set_option linter.unusedVariables false
theorem law_same (x0 : List (Int × Int × ByteArray × List Int × Int × Int × Unit)) (w0 : x0.length ≤ maxLen ∧ ∀ x ∈ x0, (Lit.int .i64 x.1).wf = true ∧ (Lit.int .i64 x.2.1).wf = true ∧ x.2.2.1.size ≤ maxLen ∧ (x.2.2.2.1.length ≤ maxLen ∧ ∀ y ∈ x.2.2.2.1, (Lit.int .u8 y).wf = true) ∧ (Lit.int .i64 x.2.2.2.2.1).wf = true ∧ (Lit.int .i64 x.2.2.2.2.2.1).wf = true ∧ True) (x1 : List Int) (w1 : x1.length ≤ maxLen ∧ ∀ y ∈ x1, (Lit.int .u8 y).wf = true) :
    ∃ k, ∀ K : Bool → Option Out, f5 k K (x0.map fun x => .agg [.int .i64 x.1, .int .i64 x.2.1, .str x.2.2.1, .slc none (x.2.2.2.1.map fun y => .int .u8 y), .int .i64 x.2.2.2.2.1, .int .i64 x.2.2.2.2.2.1]) (x1.map fun y => .int .u8 y) = K true :=
  ⟨1000, fun K => by
    have h := sameLaw_eq (k := 1000) K (Nat.le_refl _) (x0.map fun x => (⟨x.1, x.2.1, x.2.2.1, x.2.2.2.1, x.2.2.2.2.1, x.2.2.2.2.2.1⟩ : Vl)) x1 (fun v hv => by
      obtain ⟨x, hx, rfl⟩ := List.mem_map.1 hv
      obtain ⟨_, h2, _, h4, _⟩ := w0.2 x hx
      exact ⟨wfByt h4.2, wf64 h2⟩) (wfByt w1.2)
    rw [List.map_map] at h
    exact h⟩
theorem law_spaces (x0 : Int × Int × Bool × Bool × Int × Int × Int × Bool × Bool × Bool × Unit) (_ : (Lit.int .i64 x0.1).wf = true ∧ (Lit.int .i64 x0.2.1).wf = true ∧ True ∧ True ∧ (Lit.int .i64 x0.2.2.2.2.1).wf = true ∧ (Lit.int .i64 x0.2.2.2.2.2.1).wf = true ∧ (Lit.int .i64 x0.2.2.2.2.2.2.1).wf = true ∧ True ∧ True ∧ True ∧ True) (x1 : List Int) (w1 : x1.length ≤ maxLen ∧ ∀ y ∈ x1, (Lit.int .i64 y).wf = true) :
    ∃ k, ∀ K : Bool → Option Out, f3 k K (.agg [.int .i64 x0.1, .int .i64 x0.2.1, .bool x0.2.2.1, .bool x0.2.2.2.1, .int .i64 x0.2.2.2.2.1, .int .i64 x0.2.2.2.2.2.1, .int .i64 x0.2.2.2.2.2.2.1, .bool x0.2.2.2.2.2.2.2.1, .bool x0.2.2.2.2.2.2.2.2.1, .bool x0.2.2.2.2.2.2.2.2.2.1]) (x1.map fun y => .int .i64 y) = K true :=
  ⟨1000, fun K => spaces_eq K (by omega) ⟨x0.1, x0.2.1, x0.2.2.1, x0.2.2.2.1, x0.2.2.2.2.1, x0.2.2.2.2.2.1, x0.2.2.2.2.2.2.1, x0.2.2.2.2.2.2.2.1, x0.2.2.2.2.2.2.2.2.1, x0.2.2.2.2.2.2.2.2.2.1⟩ x1 (fun n hn => wf64 (w1.2 n hn))⟩
end Go.Proofs.YthlaobnnhghcfaaD
