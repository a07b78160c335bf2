/- The row of PartApart: whatever comes in, the Go function answers true: by the printed functions, which the kernel has held against the program's code, and a plain law of these. -/
import Derived.Test.YtgkopcfbdcbjbaaRows
import Derived.Test.YtgkopcfbdcbjbaaTP
import Derived.Test.YtgkopcfbdcbjbaaPe
import Derived.WalkKit
import Derived.ProofKit
import Derived.OpenShut
import Derived.ShutString
import Derived.ChangeOld
import Derived.Below
import Derived.SizedLaws
namespace Go.Proofs.Ytgkopcfbdcbjbaa.partApart
open Go.ChangeShapes Go.WideShapes Go.ChangeAt Go.RowKit
open Go.ChangeMaps (open_string shut_string)
open Go Go.Proofs.YtgkopcfbdcbjbaaS Go.Proofs.YtgkopcfbdcbjbaaD Go.Proofs
set_option linter.unusedVariables false
theorem own : ownKnob Try.prog.godebug = none := by kernel_rfl
theorem laidOut : laidOutB Try.prog = true := by kernel_rfl
set_option maxRecDepth 100000 in
theorem lifted (os : Os) (started : os.Started) (H : Type) (enc : TypeId × Value → H) :
    ReturnsInHanded {} Try.checked os 3 .any (Rows.partApartSpec.pre6 enc Try.prog Try.f3 Rows.partApartRow.domain false) (Rows.partApartSpec.post enc Try.prog Try.f3 false true false false) := by
  refine returnsInHanded_of_change_sized (C := Try.checked) own started (by kernel_rfl) Try.func3
    (ChangeSpec.witness6 (enc := enc) (C := Try.checked) false ⟨#[], #[.int .i64 0, .slice none 0 0, .slice none 0 0, .bool false], []⟩ 8 (by kernel_rfl) (by kernel_rfl) (by kernel_rfl) (by kernel_rfl)) ?_
  intro W base args ds gs before hval0 hW hcnd hsz0 _
  have hval : ∀ (j : Nat) t v, Try.f3.params[j]? = some t → args[j]? = some v → Value.okWide Try.prog W .any base t v := hval0
  have hW' := hW
  obtain ⟨p, q, hA0, hV, rfl, hfz, hnd⟩ := hW
  have hA : DataW.TrodAll enc Try.prog W 0 (fun _ => true) true Try.f3.params.toList args.toList ds p := hA0
  rw [Try.params3] at hA hval
  obtain ⟨v0, vs0, d0, ds0, p0, q0, hargs, rfl, rfl, h0, r0⟩ := trodAll_cons hA
  obtain ⟨v1, vs1, d1, ds1, p1, q1, rfl, rfl, rfl, h1, r1⟩ := trodAll_cons r0
  obtain ⟨v2, vs2, d2, ds2, p2, q2, rfl, rfl, rfl, h2, r2⟩ := trodAll_cons r1
  obtain ⟨v3, vs3, d3, ds3, p3, q3, rfl, rfl, rfl, h3, r3⟩ := trodAll_cons r2
  obtain ⟨rfl, rfl, rfl⟩ := trodAll_nil r3
  obtain rfl : args = #[v0, v1, v2, v3] := by cases args; simp_all
  obtain ⟨rfl, rfl⟩ := trodVars_none hV
  have lt0 : ∀ x ∈ p0, x.block < W.heap.size := by obtain ⟨m, hm⟩ := h0; exact DataW.trod_lt m _ _ _ hm
  obtain ⟨x0, c0, w0⟩ := cameInt Try.underlying3 (hval 0 3 v0 rfl rfl) h0
  have lt1 : ∀ x ∈ p1, x.block < W.heap.size := by obtain ⟨m, hm⟩ := h1; exact DataW.trod_lt m _ _ _ hm
  obtain ⟨x1, c1, w1⟩ := cameSlice (fun _ => rfl) Try.underlying22 (hval 1 22 v1 rfl rfl) (fun n => ((RdC.slice none Try.underlying22 (by kernel_rfl) (by decide) (by intro _; rfl) (RdC.int Try.underlying5)).mono (Nat.le_succ _))) h1
  have lt2 : ∀ x ∈ p2, x.block < W.heap.size := by obtain ⟨m, hm⟩ := h2; exact DataW.trod_lt m _ _ _ hm
  obtain ⟨x2, c2, w2⟩ := cameSlice (fun _ => rfl) Try.underlying22 (hval 2 22 v2 rfl rfl) (fun n => ((RdC.slice none Try.underlying22 (by kernel_rfl) (by decide) (by intro _; rfl) (RdC.int Try.underlying5)).mono (Nat.le_succ _))) h2
  have lt3 : ∀ x ∈ p3, x.block < W.heap.size := by obtain ⟨m, hm⟩ := h3; exact DataW.trod_lt m _ _ _ hm
  obtain ⟨x3, c3, w3⟩ := cameBool Try.underlying4 (hval 3 4 v3 rfl rfl) h3
  obtain ⟨k, hk⟩ := law_apart x0 w0 x1 w1 x2 w2 x3 w3
  have hfn := f3_ok k Out [.v (.int .i64 x0), .sl true none _, .sl true none _, .v (.bool x3)] [] some ⟨.v (.bool true), []⟩ (hk (fun u => some (f3_out u)))
  obtain ⟨_, o, hok, ho, _⟩ := hfn
  cases ho
  refine (law_calls (hok.fn (ent_of Try.func3 (by kernel_rfl) rfl)) (VRelL.cons.2 ⟨c0, VRelL.cons.2 ⟨c1, VRelL.cons.2 ⟨c2, VRelL.cons.2 ⟨c3, VRelL.nil⟩⟩⟩⟩)).mono fun e W' ⟨he, bel⟩ => ?_
  subst he
  exact ⟨_, rfl, _, _, _, [], _, [], hW', trodAll_mk1 (shut_bool Try.underlying4 _), (trodAll_cons_mk (Below.trod laidOut (by kernel_rfl) (of_decide_eq_true (by kernel_rfl)) h0 bel lt0) (trodAll_cons_mk (Below.trod laidOut (by kernel_rfl) (of_decide_eq_true (by kernel_rfl)) h1 bel lt1) (trodAll_cons_mk (Below.trod laidOut (by kernel_rfl) (of_decide_eq_true (by kernel_rfl)) h2 bel lt2) (trodAll_cons_mk (Below.trod laidOut (by kernel_rfl) (of_decide_eq_true (by kernel_rfl)) h3 bel lt3) trodAll_mk0)))), rfl, bel.frame _, fun h => by cases h⟩
theorem over : Rows.partApartRow.holds Try.pinned (OpenSpec.ofChange Rows.partApartSpec) :=
  OpenClaim.holds_of_wide 3 Try.f3 rfl rfl rfl rfl rfl rfl rfl ⟨rfl, rfl, rfl, rfl, rfl⟩ rfl rfl rfl rfl rfl (by kernel_rfl) Try.func3 (by kernel_rfl)
    (of_decide_eq_true (by kernel_rfl)) (by unfold Func.isWrapper; first | (rw [if_pos (by decide +kernel)]; kernel_rfl) | (rw [if_neg (by decide +kernel)]; exact ⟨rfl, rfl⟩))
    (fun os started H enc _ => lifted os started H enc)
theorem proved : Rows.PartApartSaid := over
#print axioms proved
end Go.Proofs.Ytgkopcfbdcbjbaa.partApart
namespace Go.Proofs.Ytgkopcfbdcbjbaa
/-- The row, under a short name, for the claim. -/
theorem partApart_holds : Rows.PartApartSaid := partApart.proved
end Go.Proofs.Ytgkopcfbdcbjbaa
