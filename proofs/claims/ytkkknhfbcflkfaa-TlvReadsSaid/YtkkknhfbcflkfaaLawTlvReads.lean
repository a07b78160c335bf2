/- The row of TlvReads: whatever comes in, the Go function answers true: by the printed functions, which the kernel has held against the program's code, and a plain law of these. -/
import Derived.Test.YtkkknhfbcflkfaaRows
import Derived.Test.YtkkknhfbcflkfaaTP
import Derived.Test.YtkkknhfbcflkfaaPk
import Derived.WalkKit
import Derived.ProofKit
import Derived.OpenShut
import Derived.ShutString
import Derived.ChangeOld
import Derived.Below
import Derived.SizedLaws
namespace Go.Proofs.Ytkkknhfbcflkfaa.tlvReads
open Go.ChangeShapes Go.WideShapes Go.ChangeAt Go.RowKit
open Go.ChangeMaps (open_string shut_string)
open Go Go.Proofs.YtkkknhfbcflkfaaS Go.Proofs.YtkkknhfbcflkfaaD Go.Proofs
set_option linter.unusedVariables false
theorem own : ownKnob Try.prog.godebug = none := by kernel_rfl
theorem laidOut : laidOutB Try.prog = true := by kernel_rfl
set_option maxRecDepth 100000 in
theorem lifted (os : Os) (started : os.Started) (H : Type) (enc : TypeId × Value → H) :
    ReturnsInHanded {} Try.checked os 4 .any (Rows.tlvReadsSpec.pre6 enc Try.prog Try.f4 Rows.tlvReadsRow.domain false) (Rows.tlvReadsSpec.post enc Try.prog Try.f4 false true false false) := by
  refine returnsInHanded_of_change_sized (C := Try.checked) own started (by kernel_rfl) Try.func4
    (ChangeSpec.witness6 (enc := enc) (C := Try.checked) false ⟨#[], #[.slice none 0 0], []⟩ 8 (by kernel_rfl) (by kernel_rfl) (by kernel_rfl) (by kernel_rfl)) ?_
  intro W base args ds gs before hval0 hW hcnd hsz0 _
  have hval : ∀ (j : Nat) t v, Try.f4.params[j]? = some t → args[j]? = some v → Value.okWide Try.prog W .any base t v := hval0
  have hW' := hW
  obtain ⟨p, q, hA0, hV, rfl, hfz, hnd⟩ := hW
  have hA : DataW.TrodAll enc Try.prog W 0 (fun _ => true) true Try.f4.params.toList args.toList ds p := hA0
  rw [Try.params4] at hA hval
  obtain ⟨v0, vs0, d0, ds0, p0, q0, hargs, rfl, rfl, h0, r0⟩ := trodAll_cons hA
  obtain ⟨rfl, rfl, rfl⟩ := trodAll_nil r0
  obtain rfl : args = #[v0] := by cases args; simp_all
  obtain ⟨rfl, rfl⟩ := trodVars_none hV
  have lt0 : ∀ x ∈ p0, x.block < W.heap.size := by obtain ⟨m, hm⟩ := h0; exact DataW.trod_lt m _ _ _ hm
  obtain ⟨x0, c0, w0⟩ := cameSlice (fun _ => rfl) Try.underlying25 (hval 0 25 v0 rfl rfl) (fun n => ((RdC.slice none Try.underlying25 (by kernel_rfl) (by decide) (by intro _; rfl) (RdC.int Try.underlying5)).mono (Nat.le_succ _))) h0
  obtain ⟨k, hk⟩ := law_reads x0 w0
  have hfn := f4_ok k Out [.sl true none _] [] some ⟨.v (.bool true), []⟩ (hk (fun u => some (f4_out u)))
  obtain ⟨_, o, hok, ho, _⟩ := hfn
  cases ho
  refine (law_calls (hok.fn (ent_of Try.func4 (by kernel_rfl) rfl)) (VRelL.cons.2 ⟨c0, VRelL.nil⟩)).mono fun e W' ⟨he, bel⟩ => ?_
  subst he
  exact ⟨_, rfl, _, _, _, [], _, [], hW', trodAll_mk1 (shut_bool Try.underlying4 _), (trodAll_cons_mk (Below.trod laidOut (by kernel_rfl) (of_decide_eq_true (by kernel_rfl)) h0 bel lt0) trodAll_mk0), rfl, bel.frame _, fun h => by cases h⟩
theorem over : Rows.tlvReadsRow.holds Try.pinned (OpenSpec.ofChange Rows.tlvReadsSpec) :=
  OpenClaim.holds_of_wide 4 Try.f4 rfl rfl rfl rfl rfl rfl rfl ⟨rfl, rfl, rfl, rfl, rfl⟩ rfl rfl rfl rfl rfl (by kernel_rfl) Try.func4 (by kernel_rfl)
    (of_decide_eq_true (by kernel_rfl)) (by unfold Func.isWrapper; first | (rw [if_pos (by decide +kernel)]; kernel_rfl) | (rw [if_neg (by decide +kernel)]; exact ⟨rfl, rfl⟩))
    (fun os started H enc _ => lifted os started H enc)
theorem proved : Rows.TlvReadsSaid := over
#print axioms proved
end Go.Proofs.Ytkkknhfbcflkfaa.tlvReads
namespace Go.Proofs.Ytkkknhfbcflkfaa
/-- The row, under a short name, for the claim. -/
theorem tlvReads_holds : Rows.TlvReadsSaid := tlvReads.proved
end Go.Proofs.Ytkkknhfbcflkfaa
