/- A function of which a contract is known: texts and a number in, a text out, nothing that was there turned. -/
import Derived.Test.YtlaojkheenobaaaDoorTO
import Derived.Below
namespace Go.Proofs.YtlaojkheenobaaaDoorS
open Go Go.RowKit
set_option linter.unusedVariables false
set_option linter.unusedSimpArgs false
theorem Below.stp {w w' : World} (h : Below w.heap.size w w') : Stp (fun _ => False) w w' :=
  ⟨h.os, h.tape, h.output, h.size, fun k hk _ => h.block k hk, fun k hk => bsize_of (h.block k hk)⟩
theorem strRep_fn {P : Program} {g : FuncId} {s r : ByteArray} {n : Int} (H : ∀ w, Calls P g #[.string s, .int .i64 n] w fun e w' => e = .returned (.string r) ∧ Below w.heap.size w w') :
    FnOk P g [.v (.str s), .v (.int .i64 n)] [] ⟨.v (.str r), []⟩ := by
  refine ⟨rfl, rfl, fun fr φ F w vs hw hFr hI => ?_⟩
  have hlen : vs.length = 2 := by have := hI.len; simpa using this.symm
  obtain ⟨v0, v1, rfl⟩ : ∃ v0 v1, vs = [v0, v1] := by
    match vs, hlen with
    | [a, b], _ => exact ⟨a, b, rfl⟩
  have hv0 : v0 = .string s := by
    have h1 : VRel w φ F fr.B (.v (.str s)) v0 := hI.tm 0
    cases h1 with | v h => cases h; rfl
  have hv1 : v1 = .int .i64 n := by
    have h1 : VRel w φ F fr.B (.v (.int .i64 n)) v1 := hI.tm 1
    cases h1 with | v h => cases h; rfl
  subst hv0 hv1
  refine (H w).mono fun e w' ⟨he, hb⟩ => ⟨_, he, φ, F, ?_⟩
  exact (hI.world (Below.stp hb)).tmps (VRelL.cons.2 ⟨.v (.str r), VRelL.nil⟩)
end Go.Proofs.YtlaojkheenobaaaDoorS
