/- The row of BlockValues: whatever comes in, the Go function answers true: by the printed functions, which the kernel has held against the program's code, and a plain law of these. -/
import Derived.Test.YtidniahglagllaaRows
import Derived.Test.YtidniahglagllaaTP
import Derived.Test.YtidniahglagllaaPh
import Derived.WalkKit
import Derived.ProofKit
import Derived.OpenShut
import Derived.ShutString
import Derived.ChangeOld
import Derived.Below
import Derived.SizedLaws
namespace Go.Proofs.Ytidniahglagllaa.blockValues
open Go.ChangeShapes Go.WideShapes Go.ChangeAt Go.RowKit
open Go.ChangeMaps (open_string shut_string)
open Go Go.Proofs.YtidniahglagllaaS Go.Proofs.YtidniahglagllaaD Go.Proofs
set_option linter.unusedVariables false
theorem own : ownKnob Try.prog.godebug = none := by kernel_rfl
theorem laidOut : laidOutB Try.prog = true := by kernel_rfl
set_option maxRecDepth 100000 in
theorem lifted (os : Os) (started : os.Started) (H : Type) (enc : TypeId × Value → H) :
    ReturnsInHanded {} Try.checked os 3 .any (Rows.blockValuesSpec.pre6 enc Try.prog Try.f3 Rows.blockValuesRow.domain false) (Rows.blockValuesSpec.post enc Try.prog Try.f3 false true false false) := by
  refine returnsInHanded_of_change_sized (C := Try.checked) own started (by kernel_rfl) Try.func3
    (ChangeSpec.witness6 (enc := enc) (C := Try.checked) false ⟨#[], #[.agg #[.int .i64 0, .bool false, .int .i64 0], .slice none 0 0, .slice none 0 0], []⟩ 8 (by kernel_rfl) (by kernel_rfl) (by kernel_rfl) (by kernel_rfl)) ?_
  intro W base args ds gs before hval0 hW hcnd hsz0 _
  have hval : ∀ (j : Nat) t v, Try.f3.params[j]? = some t → args[j]? = some v → Value.okWide Try.prog W .any base t v := hval0
  have hW' := hW
  obtain ⟨p, q, hA0, hV, rfl, hfz, hnd⟩ := hW
  have hA : DataW.TrodAll enc Try.prog W 0 (fun _ => true) true Try.f3.params.toList args.toList ds p := hA0
  rw [Try.params3] at hA hval
  obtain ⟨v0, vs0, d0, ds0, p0, q0, hargs, rfl, rfl, h0, r0⟩ := trodAll_cons hA
  obtain ⟨v1, vs1, d1, ds1, p1, q1, rfl, rfl, rfl, h1, r1⟩ := trodAll_cons r0
  obtain ⟨v2, vs2, d2, ds2, p2, q2, rfl, rfl, rfl, h2, r2⟩ := trodAll_cons r1
  obtain ⟨rfl, rfl, rfl⟩ := trodAll_nil r2
  obtain rfl : args = #[v0, v1, v2] := by cases args; simp_all
  obtain ⟨rfl, rfl⟩ := trodVars_none hV
  have lt0 : ∀ x ∈ p0, x.block < W.heap.size := by obtain ⟨m, hm⟩ := h0; exact DataW.trod_lt m _ _ _ hm
  obtain ⟨x0, c0, w0⟩ := cameStruct (fs := [(3, 0), (4, 1), (3, 2)]) (by kernel_rfl) (hval 0 23 v0 rfl rfl) (fun n => ((RdC.structG (t := 23) (m := 3) (fs := [(3, 0), (4, 1), (3, 2)]) (by kernel_rfl) (by kernel_rfl) (RdG.cons (t := 3) (off := 0) (m := 2) (RdC.int Try.underlying3) (by kernel_rfl) (fun _ => rfl) (RdG.cons (t := 4) (off := 1) (m := 1) (RdC.bool Try.underlying4) (by kernel_rfl) (fun _ => rfl) (RdG.cons (t := 3) (off := 2) (m := 0) (RdC.int Try.underlying3) (by kernel_rfl) (fun _ => rfl) (RdG.nil (off := 3)))))).mono (Nat.le_succ _))) h0
  have lt1 : ∀ x ∈ p1, x.block < W.heap.size := by obtain ⟨m, hm⟩ := h1; exact DataW.trod_lt m _ _ _ hm
  obtain ⟨x1, c1, w1⟩ := cameSlice (fun _ => rfl) Try.underlying24 (hval 1 24 v1 rfl rfl) (fun n => ((RdC.slice none Try.underlying24 (by kernel_rfl) (by decide) (by intro _; rfl) (RdC.int Try.underlying5)).mono (Nat.le_succ _))) h1
  have lt2 : ∀ x ∈ p2, x.block < W.heap.size := by obtain ⟨m, hm⟩ := h2; exact DataW.trod_lt m _ _ _ hm
  obtain ⟨x2, c2, w2⟩ := cameSlice (fun _ => rfl) Try.underlying24 (hval 2 24 v2 rfl rfl) (fun n => ((RdC.slice none Try.underlying24 (by kernel_rfl) (by decide) (by intro _; rfl) (RdC.int Try.underlying5)).mono (Nat.le_succ _))) h2
  obtain ⟨k, hk⟩ := law_values x0 w0 x1 w1 x2 w2
  have hfn := f3_ok k Out [.v (.agg _), .sl true none _, .sl true none _] [] some ⟨.v (.bool true), []⟩ (hk (fun u => some (f3_out u)))
  obtain ⟨_, o, hok, ho, _⟩ := hfn
  cases ho
  refine (law_calls hok (VRelL.cons.2 ⟨c0, VRelL.cons.2 ⟨c1, VRelL.cons.2 ⟨c2, VRelL.nil⟩⟩⟩)).mono fun e W' ⟨he, bel⟩ => ?_
  subst he
  exact ⟨_, rfl, _, _, _, [], _, [], hW', trodAll_mk1 (shut_bool Try.underlying4 _), (trodAll_cons_mk (Below.trod laidOut (by kernel_rfl) (of_decide_eq_true (by kernel_rfl)) h0 bel lt0) (trodAll_cons_mk (Below.trod laidOut (by kernel_rfl) (of_decide_eq_true (by kernel_rfl)) h1 bel lt1) (trodAll_cons_mk (Below.trod laidOut (by kernel_rfl) (of_decide_eq_true (by kernel_rfl)) h2 bel lt2) trodAll_mk0))), rfl, bel.frame _, fun h => by cases h⟩
theorem over : Rows.blockValuesRow.holds Try.pinned (OpenSpec.ofChange Rows.blockValuesSpec) :=
  OpenClaim.holds_of_wide 3 Try.f3 rfl rfl rfl rfl rfl rfl rfl ⟨rfl, rfl, rfl, rfl, rfl⟩ rfl rfl rfl rfl rfl (by kernel_rfl) Try.func3 (by kernel_rfl)
    (of_decide_eq_true (by kernel_rfl)) (by unfold Func.isWrapper; first | (rw [if_pos (by decide +kernel)]; kernel_rfl) | (rw [if_neg (by decide +kernel)]; exact ⟨rfl, rfl⟩))
    (fun os started H enc _ => lifted os started H enc)
theorem proved : Rows.BlockValuesSaid := over
#print axioms proved
end Go.Proofs.Ytidniahglagllaa.blockValues
namespace Go.Proofs.Ytidniahglagllaa
/-- The row, under a short name, for the claim. -/
theorem blockValues_holds : Rows.BlockValuesSaid := blockValues.proved
end Go.Proofs.Ytidniahglagllaa
