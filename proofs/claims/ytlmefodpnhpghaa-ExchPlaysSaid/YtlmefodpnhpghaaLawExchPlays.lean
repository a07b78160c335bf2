/- The row of ExchPlays: whatever comes in, the Go function answers true: by the printed functions, which the kernel has held against the program's code, and a plain law of these. -/
import Derived.Test.YtlmefodpnhpghaaRows
import Derived.Test.YtlmefodpnhpghaaPf
import Derived.WalkKit
import Derived.ProofKit
import Derived.OpenShut
import Derived.ShutString
import Derived.ChangeOld
import Derived.Below
import Derived.SizedLaws
namespace Go.Proofs.Ytlmefodpnhpghaa.exchPlays
open Go.ChangeShapes Go.WideShapes Go.ChangeAt Go.RowKit
open Go.ChangeMaps (open_string shut_string)
open Go Go.Proofs.YtlmefodpnhpghaaS Go.Proofs.YtlmefodpnhpghaaD Go.Proofs
set_option linter.unusedVariables false
theorem own : ownKnob Try.prog.godebug = none := by kernel_rfl
theorem laidOut : laidOutB Try.prog = true := by kernel_rfl
set_option maxRecDepth 100000 in
theorem lifted (os : Os) (started : os.Started) (H : Type) (enc : TypeId × Value → H) :
    ReturnsInHanded {} Try.checked os 6 .any (Rows.exchPlaysSpec.pre6 enc Try.prog Try.f6 Rows.exchPlaysRow.domain false) (Rows.exchPlaysSpec.post enc Try.prog Try.f6 false true false false) := by
  refine returnsInHanded_of_change_sized (C := Try.checked) own started (by kernel_rfl) Try.func6
    (ChangeSpec.witness6 (enc := enc) (C := Try.checked) false ⟨#[], #[.slice none 0 0], []⟩ 8 (by kernel_rfl) (by kernel_rfl) (by kernel_rfl) (by kernel_rfl)) ?_
  intro W base args ds gs before hval0 hW hcnd hsz0 _
  have hval : ∀ (j : Nat) t v, Try.f6.params[j]? = some t → args[j]? = some v → Value.okWide Try.prog W .any base t v := hval0
  have hW' := hW
  obtain ⟨p, q, hA0, hV, rfl, hfz, hnd⟩ := hW
  have hA : DataW.TrodAll enc Try.prog W 0 (fun _ => true) true Try.f6.params.toList args.toList ds p := hA0
  rw [Try.params6] at hA hval
  obtain ⟨v0, vs0, d0, ds0, p0, q0, hargs, rfl, rfl, h0, r0⟩ := trodAll_cons hA
  obtain ⟨rfl, rfl, rfl⟩ := trodAll_nil r0
  obtain rfl : args = #[v0] := by cases args; simp_all
  obtain ⟨rfl, rfl⟩ := trodVars_none hV
  have lt0 : ∀ x ∈ p0, x.block < W.heap.size := by obtain ⟨m, hm⟩ := h0; exact DataW.trod_lt m _ _ _ hm
  obtain ⟨x0, c0, w0⟩ := cameSlice (fun _ => rfl) Try.underlying37 (hval 0 37 v0 rfl rfl) (fun n => ((RdC.slice (some 6) Try.underlying37 (by kernel_rfl) (by decide) (by intro _; exact ⟨rfl, rfl⟩) ((RdC.struct (by kernel_rfl) (by kernel_rfl) (RdF.cons (RdC.int Try.underlying3) (by kernel_rfl) (fun _ => rfl) (RdF.cons (RdC.int Try.underlying3) (by kernel_rfl) (fun _ => rfl) (RdF.cons (RdC.int Try.underlying3) (by kernel_rfl) (fun _ => rfl) (RdF.cons ((RdC.slice none Try.underlying22 (by kernel_rfl) (by decide) (by intro _; rfl) (RdC.int Try.underlying5)).mono (Nat.le_succ _)) (by kernel_rfl) (fun _ => rfl) (RdF.cons (RdC.int Try.underlying2) (by kernel_rfl) (fun _ => rfl) (RdF.cons (RdC.int Try.underlying3) (by kernel_rfl) (fun _ => rfl) RdF.nil))))))).mono (Nat.le_succ _))).mono (Nat.le_succ _))) h0
  obtain ⟨k, hk⟩ := law_plays x0 w0
  have hfn := ans_main S (f6_Cok k) Try.func6 (ent_of Try.func6 (by kernel_rfl) rfl) rfl (fun X K => f6_ev k K _) (X := Out) (K := some) (x := ⟨.v (.bool true), []⟩) (hk _)
  obtain ⟨_, o, hok, ho, _⟩ := hfn
  cases ho
  refine (law_calls hok (VRelL.cons.2 ⟨c0, VRelL.nil⟩)).mono fun e W' ⟨he, bel⟩ => ?_
  subst he
  exact ⟨_, rfl, _, _, _, [], _, [], hW', trodAll_mk1 (shut_bool Try.underlying4 _), (trodAll_cons_mk (Below.trod laidOut (by kernel_rfl) (of_decide_eq_true (by kernel_rfl)) h0 bel lt0) trodAll_mk0), rfl, bel.frame _, fun h => by cases h⟩
theorem over : Rows.exchPlaysRow.holds Try.pinned (OpenSpec.ofChange Rows.exchPlaysSpec) :=
  OpenClaim.holds_of_wide 6 Try.f6 rfl rfl rfl rfl rfl rfl rfl ⟨rfl, rfl, rfl, rfl, rfl⟩ rfl rfl rfl rfl rfl (by kernel_rfl) Try.func6 (by kernel_rfl)
    (of_decide_eq_true (by kernel_rfl)) (by unfold Func.isWrapper; first | (rw [if_pos (by decide +kernel)]; kernel_rfl) | (rw [if_neg (by decide +kernel)]; exact ⟨rfl, rfl⟩))
    (fun os started H enc _ => lifted os started H enc)
theorem proved : Rows.ExchPlaysSaid := over
#print axioms proved
end Go.Proofs.Ytlmefodpnhpghaa.exchPlays
namespace Go.Proofs.Ytlmefodpnhpghaa
/-- The row, under a short name, for the claim. -/
theorem exchPlays_holds : Rows.ExchPlaysSaid := exchPlays.proved
end Go.Proofs.Ytlmefodpnhpghaa
