/- The row of SchemaBlanks: whatever comes in, the Go function answers true: by the printed functions, which the kernel has held against the program's code, and a plain law of these. -/
import Derived.Test.YtoijlllboghpcaaRows
import Derived.Test.YtoijlllboghpcaaTP
import Derived.Test.YtoijlllboghpcaaPc
import Derived.WalkKit
import Derived.ProofKit
import Derived.OpenShut
import Derived.ShutString
import Derived.ChangeOld
import Derived.Below
import Derived.SizedLaws
namespace Go.Proofs.Ytoijlllboghpcaa.schemaBlanks
open Go.ChangeShapes Go.WideShapes Go.ChangeAt Go.RowKit
open Go.ChangeMaps (open_string shut_string)
open Go Go.Proofs.YtoijlllboghpcaaS Go.Proofs.YtoijlllboghpcaaD Go.Proofs
set_option linter.unusedVariables false
theorem own : ownKnob Try.prog.godebug = none := by kernel_rfl
theorem laidOut : laidOutB Try.prog = true := by kernel_rfl
set_option maxRecDepth 100000 in
theorem lifted (os : Os) (started : os.Started) (H : Type) (enc : TypeId × Value → H) :
    ReturnsInHanded {} Try.checked os 3 .any (Rows.schemaBlanksSpec.pre6 enc Try.prog Try.f3 Rows.schemaBlanksRow.domain false) (Rows.schemaBlanksSpec.post enc Try.prog Try.f3 false true false false) := by
  refine returnsInHanded_of_change_sized (C := Try.checked) own started (by kernel_rfl) Try.func3
    (ChangeSpec.witness6 (enc := enc) (C := Try.checked) false ⟨#[], #[.agg #[.int .i64 0, .int .i64 0, .bool false, .slice none 0 0]], []⟩ 8 (by kernel_rfl) (by kernel_rfl) (by kernel_rfl) (by kernel_rfl)) ?_
  intro W base args ds gs before hval0 hW hcnd hsz0 _
  have hval : ∀ (j : Nat) t v, Try.f3.params[j]? = some t → args[j]? = some v → Value.okWide Try.prog W .any base t v := hval0
  have hW' := hW
  obtain ⟨p, q, hA0, hV, rfl, hfz, hnd⟩ := hW
  have hA : DataW.TrodAll enc Try.prog W 0 (fun _ => true) true Try.f3.params.toList args.toList ds p := hA0
  rw [Try.params3] at hA hval
  obtain ⟨v0, vs0, d0, ds0, p0, q0, hargs, rfl, rfl, h0, r0⟩ := trodAll_cons hA
  obtain ⟨rfl, rfl, rfl⟩ := trodAll_nil r0
  obtain rfl : args = #[v0] := by cases args; simp_all
  obtain ⟨rfl, rfl⟩ := trodVars_none hV
  have lt0 : ∀ x ∈ p0, x.block < W.heap.size := by obtain ⟨m, hm⟩ := h0; exact DataW.trod_lt m _ _ _ hm
  obtain ⟨x0, c0, w0⟩ := cameStruct (fs := [(3, 0), (3, 1), (4, 2), (22, 3)]) (by kernel_rfl) (hval 0 24 v0 rfl rfl) (fun n => ((RdC.structG (t := 24) (m := 4) (fs := [(3, 0), (3, 1), (4, 2), (22, 3)]) (by kernel_rfl) (by kernel_rfl) (RdG.cons (t := 3) (off := 0) (m := 3) (RdC.int Try.underlying3) (by kernel_rfl) (fun _ => rfl) (RdG.cons (t := 3) (off := 1) (m := 2) (RdC.int Try.underlying3) (by kernel_rfl) (fun _ => rfl) (RdG.cons (t := 4) (off := 2) (m := 1) (RdC.bool Try.underlying4) (by kernel_rfl) (fun _ => rfl) (RdG.cons (t := 22) (off := 3) (m := 0) ((RdC.slice (some 8) Try.underlying22 (by kernel_rfl) (by decide) (by intro _; exact ⟨rfl, rfl⟩) ((RdC.structG (t := 28) (m := 8) (fs := [(3, 0), (3, 1), (4, 2), (4, 3), (4, 4), (2, 5), (2, 6), (4, 7)]) (by kernel_rfl) (by kernel_rfl) (RdG.cons (t := 3) (off := 0) (m := 7) (RdC.int Try.underlying3) (by kernel_rfl) (fun _ => rfl) (RdG.cons (t := 3) (off := 1) (m := 6) (RdC.int Try.underlying3) (by kernel_rfl) (fun _ => rfl) (RdG.cons (t := 4) (off := 2) (m := 5) (RdC.bool Try.underlying4) (by kernel_rfl) (fun _ => rfl) (RdG.cons (t := 4) (off := 3) (m := 4) (RdC.bool Try.underlying4) (by kernel_rfl) (fun _ => rfl) (RdG.cons (t := 4) (off := 4) (m := 3) (RdC.bool Try.underlying4) (by kernel_rfl) (fun _ => rfl) (RdG.cons (t := 2) (off := 5) (m := 2) (RdC.int Try.underlying2) (by kernel_rfl) (fun _ => rfl) (RdG.cons (t := 2) (off := 6) (m := 1) (RdC.int Try.underlying2) (by kernel_rfl) (fun _ => rfl) (RdG.cons (t := 4) (off := 7) (m := 0) (RdC.bool Try.underlying4) (by kernel_rfl) (fun _ => rfl) (RdG.nil (off := 8))))))))))).mono (Nat.le_succ _))).mono (Nat.le_succ _)) (by kernel_rfl) (fun _ => rfl) (RdG.nil (off := 4))))))).mono (Nat.le_succ _))) h0
  obtain ⟨k, hk⟩ := law_blanks x0 w0
  have hfn := f3_ok k Out [.v (.agg _)] [] some ⟨.v (.bool true), []⟩ (hk (fun u => some (f3_out u)))
  obtain ⟨_, o, hok, ho, _⟩ := hfn
  cases ho
  refine (law_calls (hok.fn (ent_of Try.func3 (by kernel_rfl) rfl)) (VRelL.cons.2 ⟨c0, VRelL.nil⟩)).mono fun e W' ⟨he, bel⟩ => ?_
  subst he
  exact ⟨_, rfl, _, _, _, [], _, [], hW', trodAll_mk1 (shut_bool Try.underlying4 _), (trodAll_cons_mk (Below.trod laidOut (by kernel_rfl) (of_decide_eq_true (by kernel_rfl)) h0 bel lt0) trodAll_mk0), rfl, bel.frame _, fun h => by cases h⟩
theorem over : Rows.schemaBlanksRow.holds Try.pinned (OpenSpec.ofChange Rows.schemaBlanksSpec) :=
  OpenClaim.holds_of_wide 3 Try.f3 rfl rfl rfl rfl rfl rfl rfl ⟨rfl, rfl, rfl, rfl, rfl⟩ rfl rfl rfl rfl rfl (by kernel_rfl) Try.func3 (by kernel_rfl)
    (of_decide_eq_true (by kernel_rfl)) (by unfold Func.isWrapper; first | (rw [if_pos (by decide +kernel)]; kernel_rfl) | (rw [if_neg (by decide +kernel)]; exact ⟨rfl, rfl⟩))
    (fun os started H enc _ => lifted os started H enc)
theorem proved : Rows.SchemaBlanksSaid := over
#print axioms proved
end Go.Proofs.Ytoijlllboghpcaa.schemaBlanks
namespace Go.Proofs.Ytoijlllboghpcaa
/-- The row, under a short name, for the claim. -/
theorem schemaBlanks_holds : Rows.SchemaBlanksSaid := schemaBlanks.proved
end Go.Proofs.Ytoijlllboghpcaa
