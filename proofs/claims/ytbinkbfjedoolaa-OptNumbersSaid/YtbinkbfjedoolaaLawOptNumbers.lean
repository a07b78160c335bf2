/- The row of OptNumbers: whatever comes in, the Go function answers true: by the printed functions, which the kernel has held against the program's code, and a plain law of these. -/
import Derived.Test.YtbinkbfjedoolaaRows
import Derived.Test.YtbinkbfjedoolaaTP
import Derived.Test.YtbinkbfjedoolaaPb
import Derived.WalkKit
import Derived.ProofKit
import Derived.OpenShut
import Derived.ShutString
import Derived.ChangeOld
import Derived.Below
import Derived.SizedLaws
namespace Go.Proofs.Ytbinkbfjedoolaa.optNumbers
open Go.ChangeShapes Go.WideShapes Go.ChangeAt Go.RowKit
open Go.ChangeMaps (open_string shut_string)
open Go Go.Proofs.YtbinkbfjedoolaaS Go.Proofs.YtbinkbfjedoolaaD Go.Proofs
set_option linter.unusedVariables false
theorem own : ownKnob Try.prog.godebug = none := by kernel_rfl
theorem laidOut : laidOutB Try.prog = true := by kernel_rfl
set_option maxRecDepth 100000 in
theorem lifted (os : Os) (started : os.Started) (H : Type) (enc : TypeId × Value → H) :
    ReturnsInHanded {} Try.checked os 6 .any (Rows.optNumbersSpec.pre6 enc Try.prog Try.f6 Rows.optNumbersRow.domain false) (Rows.optNumbersSpec.post enc Try.prog Try.f6 false true false false) := by
  refine returnsInHanded_of_change_sized (C := Try.checked) own started (by kernel_rfl) Try.func6
    (ChangeSpec.witness6 (enc := enc) (C := Try.checked) false ⟨#[], #[.int .i64 0], []⟩ 8 (by kernel_rfl) (by kernel_rfl) (by kernel_rfl) (by kernel_rfl)) ?_
  intro W base args ds gs before hval0 hW hcnd hsz0 _
  have hval : ∀ (j : Nat) t v, Try.f6.params[j]? = some t → args[j]? = some v → Value.okWide Try.prog W .any base t v := hval0
  have hW' := hW
  obtain ⟨p, q, hA0, hV, rfl, hfz, hnd⟩ := hW
  have hA : DataW.TrodAll enc Try.prog W 0 (fun _ => true) true Try.f6.params.toList args.toList ds p := hA0
  rw [Try.params6] at hA hval
  obtain ⟨v0, vs0, d0, ds0, p0, q0, hargs, rfl, rfl, h0, r0⟩ := trodAll_cons hA
  obtain ⟨rfl, rfl, rfl⟩ := trodAll_nil r0
  obtain rfl : args = #[v0] := by cases args; simp_all
  obtain ⟨rfl, rfl⟩ := trodVars_none hV
  have lt0 : ∀ x ∈ p0, x.block < W.heap.size := by obtain ⟨m, hm⟩ := h0; exact DataW.trod_lt m _ _ _ hm
  obtain ⟨x0, c0, w0⟩ := cameInt Try.underlying2 (hval 0 2 v0 rfl rfl) h0
  obtain ⟨k, hk⟩ := law_numbers x0 w0
  have hfn := f6_ok k Out [.v (.int .i64 x0)] [] some ⟨.v (.bool true), []⟩ (hk (fun u => some (f6_out u)))
  obtain ⟨_, o, hok, ho, _⟩ := hfn
  cases ho
  refine (law_calls (hok.fn (ent_of Try.func6 (by kernel_rfl) rfl)) (VRelL.cons.2 ⟨c0, VRelL.nil⟩)).mono fun e W' ⟨he, bel⟩ => ?_
  subst he
  exact ⟨_, rfl, _, _, _, [], _, [], hW', trodAll_mk1 (shut_bool Try.underlying4 _), (trodAll_cons_mk (Below.trod laidOut (by kernel_rfl) (of_decide_eq_true (by kernel_rfl)) h0 bel lt0) trodAll_mk0), rfl, bel.frame _, fun h => by cases h⟩
theorem over : Rows.optNumbersRow.holds Try.pinned (OpenSpec.ofChange Rows.optNumbersSpec) :=
  OpenClaim.holds_of_wide 6 Try.f6 rfl rfl rfl rfl rfl rfl rfl ⟨rfl, rfl, rfl, rfl, rfl⟩ rfl rfl rfl rfl rfl (by kernel_rfl) Try.func6 (by kernel_rfl)
    (of_decide_eq_true (by kernel_rfl)) (by unfold Func.isWrapper; first | (rw [if_pos (by decide +kernel)]; kernel_rfl) | (rw [if_neg (by decide +kernel)]; exact ⟨rfl, rfl⟩))
    (fun os started H enc _ => lifted os started H enc)
theorem proved : Rows.OptNumbersSaid := over
#print axioms proved
end Go.Proofs.Ytbinkbfjedoolaa.optNumbers
namespace Go.Proofs.Ytbinkbfjedoolaa
/-- The row, under a short name, for the claim. -/
theorem optNumbers_holds : Rows.OptNumbersSaid := optNumbers.proved
end Go.Proofs.Ytbinkbfjedoolaa
