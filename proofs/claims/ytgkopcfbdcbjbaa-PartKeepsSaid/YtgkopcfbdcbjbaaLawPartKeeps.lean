/- The row of PartKeeps: whatever comes in, the Go function answers true: by the printed functions, which the kernel has held against the program's code, and a plain law of these. -/
import Derived.Test.YtgkopcfbdcbjbaaRows
import Derived.Test.YtgkopcfbdcbjbaaTP
import Derived.Test.YtgkopcfbdcbjbaaPi
import Derived.WalkKit
import Derived.ProofKit
import Derived.OpenShut
import Derived.ShutString
import Derived.ChangeOld
import Derived.Below
import Derived.SizedLaws
namespace Go.Proofs.Ytgkopcfbdcbjbaa.partKeeps
open Go.ChangeShapes Go.WideShapes Go.ChangeAt Go.RowKit
open Go.ChangeMaps (open_string shut_string)
open Go Go.Proofs.YtgkopcfbdcbjbaaS Go.Proofs.YtgkopcfbdcbjbaaD Go.Proofs
set_option linter.unusedVariables false
theorem own : ownKnob Try.prog.godebug = none := by kernel_rfl
theorem laidOut : laidOutB Try.prog = true := by kernel_rfl
set_option maxRecDepth 100000 in
theorem lifted (os : Os) (started : os.Started) (H : Type) (enc : TypeId × Value → H) :
    ReturnsInHanded {} Try.checked os 4 .any (Rows.partKeepsSpec.pre6 enc Try.prog Try.f4 Rows.partKeepsRow.domain false) (Rows.partKeepsSpec.post enc Try.prog Try.f4 false true false false) := by
  refine returnsInHanded_of_change_sized (C := Try.checked) own started (by kernel_rfl) Try.func4
    (ChangeSpec.witness6 (enc := enc) (C := Try.checked) false ⟨#[], #[.int .i64 0, .int .i64 0, .int .i64 0, .slice none 0 0, .slice none 0 0], []⟩ 8 (by kernel_rfl) (by kernel_rfl) (by kernel_rfl) (by kernel_rfl)) ?_
  intro W base args ds gs before hval0 hW hcnd hsz0 _
  have hval : ∀ (j : Nat) t v, Try.f4.params[j]? = some t → args[j]? = some v → Value.okWide Try.prog W .any base t v := hval0
  have hW' := hW
  obtain ⟨p, q, hA0, hV, rfl, hfz, hnd⟩ := hW
  have hA : DataW.TrodAll enc Try.prog W 0 (fun _ => true) true Try.f4.params.toList args.toList ds p := hA0
  rw [Try.params4] at hA hval
  obtain ⟨v0, vs0, d0, ds0, p0, q0, hargs, rfl, rfl, h0, r0⟩ := trodAll_cons hA
  obtain ⟨v1, vs1, d1, ds1, p1, q1, rfl, rfl, rfl, h1, r1⟩ := trodAll_cons r0
  obtain ⟨v2, vs2, d2, ds2, p2, q2, rfl, rfl, rfl, h2, r2⟩ := trodAll_cons r1
  obtain ⟨v3, vs3, d3, ds3, p3, q3, rfl, rfl, rfl, h3, r3⟩ := trodAll_cons r2
  obtain ⟨v4, vs4, d4, ds4, p4, q4, rfl, rfl, rfl, h4, r4⟩ := trodAll_cons r3
  obtain ⟨rfl, rfl, rfl⟩ := trodAll_nil r4
  obtain rfl : args = #[v0, v1, v2, v3, v4] := by cases args; simp_all
  obtain ⟨rfl, rfl⟩ := trodVars_none hV
  have lt0 : ∀ x ∈ p0, x.block < W.heap.size := by obtain ⟨m, hm⟩ := h0; exact DataW.trod_lt m _ _ _ hm
  obtain ⟨x0, c0, w0⟩ := cameInt Try.underlying3 (hval 0 3 v0 rfl rfl) h0
  have lt1 : ∀ x ∈ p1, x.block < W.heap.size := by obtain ⟨m, hm⟩ := h1; exact DataW.trod_lt m _ _ _ hm
  obtain ⟨x1, c1, w1⟩ := cameInt Try.underlying3 (hval 1 3 v1 rfl rfl) h1
  have lt2 : ∀ x ∈ p2, x.block < W.heap.size := by obtain ⟨m, hm⟩ := h2; exact DataW.trod_lt m _ _ _ hm
  obtain ⟨x2, c2, w2⟩ := cameInt Try.underlying3 (hval 2 3 v2 rfl rfl) h2
  have lt3 : ∀ x ∈ p3, x.block < W.heap.size := by obtain ⟨m, hm⟩ := h3; exact DataW.trod_lt m _ _ _ hm
  obtain ⟨x3, c3, w3⟩ := cameSlice (fun _ => rfl) Try.underlying22 (hval 3 22 v3 rfl rfl) (fun n => ((RdC.slice none Try.underlying22 (by kernel_rfl) (by decide) (by intro _; rfl) (RdC.int Try.underlying5)).mono (Nat.le_succ _))) h3
  have lt4 : ∀ x ∈ p4, x.block < W.heap.size := by obtain ⟨m, hm⟩ := h4; exact DataW.trod_lt m _ _ _ hm
  obtain ⟨x4, c4, w4⟩ := cameSlice (fun _ => rfl) Try.underlying39 (hval 4 39 v4 rfl rfl) (fun n => ((RdC.slice (some 4) Try.underlying39 (by kernel_rfl) (by decide) (by intro _; exact ⟨rfl, rfl⟩) ((RdC.structG (t := 44) (m := 4) (fs := [(3, 0), (3, 1), (3, 2), (22, 3)]) (by kernel_rfl) (by kernel_rfl) (RdG.cons (t := 3) (off := 0) (m := 3) (RdC.int Try.underlying3) (by kernel_rfl) (fun _ => rfl) (RdG.cons (t := 3) (off := 1) (m := 2) (RdC.int Try.underlying3) (by kernel_rfl) (fun _ => rfl) (RdG.cons (t := 3) (off := 2) (m := 1) (RdC.int Try.underlying3) (by kernel_rfl) (fun _ => rfl) (RdG.cons (t := 22) (off := 3) (m := 0) ((RdC.slice none Try.underlying22 (by kernel_rfl) (by decide) (by intro _; rfl) (RdC.int Try.underlying5)).mono (Nat.le_succ _)) (by kernel_rfl) (fun _ => rfl) (RdG.nil (off := 4))))))).mono (Nat.le_succ _))).mono (Nat.le_succ _))) h4
  obtain ⟨k, hk⟩ := law_keeps x0 w0 x1 w1 x2 w2 x3 w3 x4 w4
  have hfn := f4_ok k Out [.v (.int .i64 x0), .v (.int .i64 x1), .v (.int .i64 x2), .sl true none _, .sl true (some 4) _] [] some ⟨.v (.bool true), []⟩ (hk (fun u => some (f4_out u)))
  obtain ⟨_, o, hok, ho, _⟩ := hfn
  cases ho
  refine (law_calls (hok.fn (ent_of Try.func4 (by kernel_rfl) rfl)) (VRelL.cons.2 ⟨c0, VRelL.cons.2 ⟨c1, VRelL.cons.2 ⟨c2, VRelL.cons.2 ⟨c3, VRelL.cons.2 ⟨c4, VRelL.nil⟩⟩⟩⟩⟩)).mono fun e W' ⟨he, bel⟩ => ?_
  subst he
  exact ⟨_, rfl, _, _, _, [], _, [], hW', trodAll_mk1 (shut_bool Try.underlying4 _), (trodAll_cons_mk (Below.trod laidOut (by kernel_rfl) (of_decide_eq_true (by kernel_rfl)) h0 bel lt0) (trodAll_cons_mk (Below.trod laidOut (by kernel_rfl) (of_decide_eq_true (by kernel_rfl)) h1 bel lt1) (trodAll_cons_mk (Below.trod laidOut (by kernel_rfl) (of_decide_eq_true (by kernel_rfl)) h2 bel lt2) (trodAll_cons_mk (Below.trod laidOut (by kernel_rfl) (of_decide_eq_true (by kernel_rfl)) h3 bel lt3) (trodAll_cons_mk (Below.trod laidOut (by kernel_rfl) (of_decide_eq_true (by kernel_rfl)) h4 bel lt4) trodAll_mk0))))), rfl, bel.frame _, fun h => by cases h⟩
theorem over : Rows.partKeepsRow.holds Try.pinned (OpenSpec.ofChange Rows.partKeepsSpec) :=
  OpenClaim.holds_of_wide 4 Try.f4 rfl rfl rfl rfl rfl rfl rfl ⟨rfl, rfl, rfl, rfl, rfl⟩ rfl rfl rfl rfl rfl (by kernel_rfl) Try.func4 (by kernel_rfl)
    (of_decide_eq_true (by kernel_rfl)) (by unfold Func.isWrapper; first | (rw [if_pos (by decide +kernel)]; kernel_rfl) | (rw [if_neg (by decide +kernel)]; exact ⟨rfl, rfl⟩))
    (fun os started H enc _ => lifted os started H enc)
theorem proved : Rows.PartKeepsSaid := over
#print axioms proved
end Go.Proofs.Ytgkopcfbdcbjbaa.partKeeps
namespace Go.Proofs.Ytgkopcfbdcbjbaa
/-- The row, under a short name, for the claim. -/
theorem partKeeps_holds : Rows.PartKeepsSaid := partKeeps.proved
end Go.Proofs.Ytgkopcfbdcbjbaa
