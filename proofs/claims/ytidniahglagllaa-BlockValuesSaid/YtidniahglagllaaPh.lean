/- Blocks: the laws, as what comes in is read. -/
import Derived.Test.YtidniahglagllaaPf
namespace Go.Proofs.YtidniahglagllaaD
open Go Go.Proofs.YtidniahglagllaaS Go.Proofs
set_option linter.unusedVariables false
theorem law_values (x0 : Int × Bool × Int × Unit) (_ : (Lit.int .i64 x0.1).wf = true ∧ True ∧ (Lit.int .i64 x0.2.2.1).wf = true ∧ True) (x1 : List Int) (w1 : x1.length ≤ maxLen ∧ ∀ y ∈ x1, (Lit.int .u8 y).wf = true) (x2 : List Int) (_ : x2.length ≤ maxLen ∧ ∀ y ∈ x2, (Lit.int .u8 y).wf = true) :
    ∃ k, ∀ K : Bool → Option Out, f3 k K (.agg [.int .i64 x0.1, .bool x0.2.1, .int .i64 x0.2.2.1]) (x1.map fun y => .int .u8 y) (x2.map fun y => .int .u8 y) = K true :=
  ⟨300001, fun K => values_eq K (by omega) x0.1 x0.2.2.1 x0.2.1 x1 x2 (wfByt w1.2)⟩
theorem law_plays (x0 : Int) (_ : (Lit.int .i64 x0).wf = true) (x1 : List ((Int × Bool × Int × Unit) × List Int × Unit)) (w1 : x1.length ≤ maxLen ∧ ∀ x ∈ x1, ((Lit.int .i64 x.1.1).wf = true ∧ True ∧ (Lit.int .i64 x.1.2.2.1).wf = true ∧ True) ∧ (x.2.1.length ≤ maxLen ∧ ∀ y ∈ x.2.1, (Lit.int .u8 y).wf = true) ∧ True) :
    ∃ k, ∀ K : Bool → Option Out, f4 k K x0 (x1.map fun x => .agg ([.int .i64 x.1.1, .bool x.1.2.1, .int .i64 x.1.2.2.1] ++ [.slc none (x.2.1.map fun y => .int .u8 y)])) = K true :=
  ⟨300001 + x1.length, fun K => by
    have h := plays_eq (k := 300001 + x1.length) K x0 (x1.map fun x => ((x.1.1, x.1.2.1, x.1.2.2.1), x.2.1)) (fun p hp => by
      obtain ⟨x, hx, rfl⟩ := List.mem_map.1 hp
      exact (w1.2 x hx).2.1.1) (by rw [List.length_map]; omega) (by rw [List.length_map]; exact w1.1)
    rw [List.map_map] at h
    exact h⟩
theorem law_back (x0 : List Int) (_ : x0.length ≤ maxLen ∧ ∀ y ∈ x0, (Lit.int .u8 y).wf = true) (x1 : Int) (_ : (Lit.int .i64 x1).wf = true) (x2 : Int) (_ : (Lit.int .i64 x2).wf = true) :
    ∃ k, ∀ K : Bool → Option Out, f5 k K (x0.map fun y => .int .u8 y) x1 x2 = K true := ⟨300001, fun K => back_eq K (by omega) x0 x1 x2⟩
theorem law_mixes (x0 : List Int) (_ : x0.length ≤ maxLen ∧ ∀ y ∈ x0, (Lit.int .u8 y).wf = true) (x1 : Int) (_ : (Lit.int .i64 x1).wf = true) (x2 : Bool) (_ : True) :
    ∃ k, ∀ K : Bool → Option Out, f6 k K (x0.map fun y => .int .u8 y) x1 x2 = K true := ⟨300001, fun K => mixes_eq K (by omega) x0 x1 x2⟩
end Go.Proofs.YtidniahglagllaaD
