/- The row of WholeOnce: whatever comes in, the Go function answers true: by the printed functions, which the kernel has held against the program's code, and a plain law of these. -/
import Derived.Test.YtfllanhepeginaaRows
import Derived.Test.YtfllanhepeginaaTP
import Derived.Test.YtfllanhepeginaaWb
import Derived.WalkKit
import Derived.ProofKit
import Derived.OpenShut
import Derived.ShutString
import Derived.ChangeOld
import Derived.Below
import Derived.SizedLaws
namespace Go.Proofs.Ytfllanhepeginaa.wholeOnce
open Go.ChangeShapes Go.WideShapes Go.ChangeAt Go.RowKit
open Go.ChangeMaps (open_string shut_string)
open Go Go.Proofs.YtfllanhepeginaaS Go.Proofs.YtfllanhepeginaaD Go.Proofs
set_option linter.unusedVariables false
theorem own : ownKnob Try.prog.godebug = none := by kernel_rfl
theorem laidOut : laidOutB Try.prog = true := by kernel_rfl
set_option maxRecDepth 100000 in
theorem lifted (os : Os) (started : os.Started) (H : Type) (enc : TypeId × Value → H) :
    ReturnsInHanded {} Try.checked os 3 .any (Rows.wholeOnceSpec.pre6 enc Try.prog Try.f3 Rows.wholeOnceRow.domain false) (Rows.wholeOnceSpec.post enc Try.prog Try.f3 false true false false) := by
  refine returnsInHanded_of_change_sized (C := Try.checked) own started (by kernel_rfl) Try.func3
    (ChangeSpec.witness6 (enc := enc) (C := Try.checked) false ⟨#[], #[.slice none 0 0, .slice none 0 0, .int .i64 0], []⟩ 8 (by kernel_rfl) (by kernel_rfl) (by kernel_rfl) (by kernel_rfl)) ?_
  intro W base args ds gs before hval0 hW hcnd hsz0 _
  have hval : ∀ (j : Nat) t v, Try.f3.params[j]? = some t → args[j]? = some v → Value.okWide Try.prog W .any base t v := hval0
  have hW' := hW
  obtain ⟨p, q, hA0, hV, rfl, hfz, hnd⟩ := hW
  have hA : DataW.TrodAll enc Try.prog W 0 (fun _ => true) true Try.f3.params.toList args.toList ds p := hA0
  rw [Try.params3] at hA hval
  obtain ⟨v0, vs0, d0, ds0, p0, q0, hargs, rfl, rfl, h0, r0⟩ := trodAll_cons hA
  obtain ⟨v1, vs1, d1, ds1, p1, q1, rfl, rfl, rfl, h1, r1⟩ := trodAll_cons r0
  obtain ⟨v2, vs2, d2, ds2, p2, q2, rfl, rfl, rfl, h2, r2⟩ := trodAll_cons r1
  obtain ⟨rfl, rfl, rfl⟩ := trodAll_nil r2
  obtain rfl : args = #[v0, v1, v2] := by cases args; simp_all
  obtain ⟨rfl, rfl⟩ := trodVars_none hV
  have lt0 : ∀ x ∈ p0, x.block < W.heap.size := by obtain ⟨m, hm⟩ := h0; exact DataW.trod_lt m _ _ _ hm
  obtain ⟨x0, c0, w0⟩ := cameSlice (fun _ => rfl) Try.underlying22 (hval 0 22 v0 rfl rfl) (fun n => ((RdC.slice (some 6) Try.underlying22 (by kernel_rfl) (by decide) (by intro _; exact ⟨rfl, rfl⟩) ((RdC.structG (t := 32) (m := 6) (fs := [(3, 0), (3, 1), (3, 2), (29, 3), (30, 4), (29, 5)]) (by kernel_rfl) (by kernel_rfl) (RdG.cons (t := 3) (off := 0) (m := 5) (RdC.int Try.underlying3) (by kernel_rfl) (fun _ => rfl) (RdG.cons (t := 3) (off := 1) (m := 4) (RdC.int Try.underlying3) (by kernel_rfl) (fun _ => rfl) (RdG.cons (t := 3) (off := 2) (m := 3) (RdC.int Try.underlying3) (by kernel_rfl) (fun _ => rfl) (RdG.cons (t := 29) (off := 3) (m := 2) ((RdC.slice none Try.underlying29 (by kernel_rfl) (by decide) (by intro _; rfl) (RdC.int Try.underlying5)).mono (Nat.le_succ _)) (by kernel_rfl) (fun _ => rfl) (RdG.cons (t := 30) (off := 4) (m := 1) ((RdC.slice (some 2) Try.underlying30 (by kernel_rfl) (by decide) (by intro _; exact ⟨rfl, rfl⟩) ((RdC.structG (t := 86) (m := 2) (fs := [(3, 0), (29, 1)]) (by kernel_rfl) (by kernel_rfl) (RdG.cons (t := 3) (off := 0) (m := 1) (RdC.int Try.underlying3) (by kernel_rfl) (fun _ => rfl) (RdG.cons (t := 29) (off := 1) (m := 0) ((RdC.slice none Try.underlying29 (by kernel_rfl) (by decide) (by intro _; rfl) (RdC.int Try.underlying5)).mono (Nat.le_succ _)) (by kernel_rfl) (fun _ => rfl) (RdG.nil (off := 2))))).mono (Nat.le_succ _))).mono (Nat.le_succ _)) (by kernel_rfl) (fun _ => rfl) (RdG.cons (t := 29) (off := 5) (m := 0) ((RdC.slice none Try.underlying29 (by kernel_rfl) (by decide) (by intro _; rfl) (RdC.int Try.underlying5)).mono (Nat.le_succ _)) (by kernel_rfl) (fun _ => rfl) (RdG.nil (off := 6))))))))).mono (Nat.le_succ _))).mono (Nat.le_succ _))) h0
  have lt1 : ∀ x ∈ p1, x.block < W.heap.size := by obtain ⟨m, hm⟩ := h1; exact DataW.trod_lt m _ _ _ hm
  obtain ⟨x1, c1, w1⟩ := cameSlice (fun _ => rfl) Try.underlying23 (hval 1 23 v1 rfl rfl) (fun n => ((RdC.slice none Try.underlying23 (by kernel_rfl) (by decide) (by intro _; rfl) (RdC.int Try.underlying3)).mono (Nat.le_succ _))) h1
  have lt2 : ∀ x ∈ p2, x.block < W.heap.size := by obtain ⟨m, hm⟩ := h2; exact DataW.trod_lt m _ _ _ hm
  obtain ⟨x2, c2, w2⟩ := cameInt Try.underlying3 (hval 2 3 v2 rfl rfl) h2
  obtain ⟨k, hk⟩ := law_once x0 w0 x1 w1 x2 w2
  have hfn := f3_ok k Out [.sl true (some 6) _, .sl true none _, .v (.int .i64 x2)] [] some ⟨.v (.bool true), []⟩ (hk (fun u => some (f3_out u)))
  obtain ⟨_, o, hok, ho, _⟩ := hfn
  cases ho
  refine (law_calls (hok.fn (ent_of Try.func3 (by kernel_rfl) rfl)) (VRelL.cons.2 ⟨c0, VRelL.cons.2 ⟨c1, VRelL.cons.2 ⟨c2, VRelL.nil⟩⟩⟩)).mono fun e W' ⟨he, bel⟩ => ?_
  subst he
  exact ⟨_, rfl, _, _, _, [], _, [], hW', trodAll_mk1 (shut_bool Try.underlying4 _), (trodAll_cons_mk (Below.trod laidOut (by kernel_rfl) (of_decide_eq_true (by kernel_rfl)) h0 bel lt0) (trodAll_cons_mk (Below.trod laidOut (by kernel_rfl) (of_decide_eq_true (by kernel_rfl)) h1 bel lt1) (trodAll_cons_mk (Below.trod laidOut (by kernel_rfl) (of_decide_eq_true (by kernel_rfl)) h2 bel lt2) trodAll_mk0))), rfl, bel.frame _, fun h => by cases h⟩
theorem over : Rows.wholeOnceRow.holds Try.pinned (OpenSpec.ofChange Rows.wholeOnceSpec) :=
  OpenClaim.holds_of_wide 3 Try.f3 rfl rfl rfl rfl rfl rfl rfl ⟨rfl, rfl, rfl, rfl, rfl⟩ rfl rfl rfl rfl rfl (by kernel_rfl) Try.func3 (by kernel_rfl)
    (of_decide_eq_true (by kernel_rfl)) (by unfold Func.isWrapper; first | (rw [if_pos (by decide +kernel)]; kernel_rfl) | (rw [if_neg (by decide +kernel)]; exact ⟨rfl, rfl⟩))
    (fun os started H enc _ => lifted os started H enc)
theorem proved : Rows.WholeOnceSaid := over
#print axioms proved
end Go.Proofs.Ytfllanhepeginaa.wholeOnce
namespace Go.Proofs.Ytfllanhepeginaa
/-- The row, under a short name, for the claim. -/
theorem wholeOnce_holds : Rows.WholeOnceSaid := wholeOnce.proved
end Go.Proofs.Ytfllanhepeginaa
