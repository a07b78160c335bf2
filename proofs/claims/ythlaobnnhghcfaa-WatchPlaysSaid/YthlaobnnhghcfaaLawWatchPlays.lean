/- The row of WatchPlays: whatever comes in, the Go function answers true: by the printed functions, which the kernel has held against the program's code, and a plain law of these. -/
import Derived.Test.YthlaobnnhghcfaaRows
import Derived.Test.YthlaobnnhghcfaaTP
import Derived.Test.YthlaobnnhghcfaaPz
import Derived.WalkKit
import Derived.ProofKit
import Derived.OpenShut
import Derived.ShutString
import Derived.ChangeOld
import Derived.Below
import Derived.SizedLaws
namespace Go.Proofs.Ythlaobnnhghcfaa.watchPlays
open Go.ChangeShapes Go.WideShapes Go.ChangeAt Go.RowKit
open Go.ChangeMaps (open_string shut_string)
open Go Go.Proofs.YthlaobnnhghcfaaS Go.Proofs.YthlaobnnhghcfaaD Go.Proofs
set_option linter.unusedVariables false
theorem own : ownKnob Try.prog.godebug = none := by kernel_rfl
theorem laidOut : laidOutB Try.prog = true := by kernel_rfl
set_option maxRecDepth 100000 in
theorem lifted (os : Os) (started : os.Started) (H : Type) (enc : TypeId × Value → H) :
    ReturnsInHanded {} Try.checked os 6 .any (Rows.watchPlaysSpec.pre6 enc Try.prog Try.f6 Rows.watchPlaysRow.domain false) (Rows.watchPlaysSpec.post enc Try.prog Try.f6 false true false false) := by
  refine returnsInHanded_of_change_sized (C := Try.checked) own started (by kernel_rfl) Try.func6
    (ChangeSpec.witness6 (enc := enc) (C := Try.checked) false ⟨#[], #[.slice none 0 0], []⟩ 8 (by kernel_rfl) (by kernel_rfl) (by kernel_rfl) (by kernel_rfl)) ?_
  intro W base args ds gs before hval0 hW hcnd hsz0 _
  have hval : ∀ (j : Nat) t v, Try.f6.params[j]? = some t → args[j]? = some v → Value.okWide Try.prog W .any base t v := hval0
  have hW' := hW
  obtain ⟨p, q, hA0, hV, rfl, hfz, hnd⟩ := hW
  have hA : DataW.TrodAll enc Try.prog W 0 (fun _ => true) true Try.f6.params.toList args.toList ds p := hA0
  rw [Try.params6] at hA hval
  obtain ⟨v0, vs0, d0, ds0, p0, q0, hargs, rfl, rfl, h0, r0⟩ := trodAll_cons hA
  obtain ⟨rfl, rfl, rfl⟩ := trodAll_nil r0
  obtain rfl : args = #[v0] := by cases args; simp_all
  obtain ⟨rfl, rfl⟩ := trodVars_none hV
  have lt0 : ∀ x ∈ p0, x.block < W.heap.size := by obtain ⟨m, hm⟩ := h0; exact DataW.trod_lt m _ _ _ hm
  obtain ⟨x0, c0, w0⟩ := cameSlice (fun _ => rfl) Try.underlying46 (hval 0 46 v0 rfl rfl) (fun n => ((RdC.slice (some 24) Try.underlying46 (by kernel_rfl) (by decide) (by intro _; exact ⟨rfl, rfl⟩) ((RdC.structG (t := 50) (m := 24) (fs := [(3, 0), (36, 1), (39, 22), (2, 23)]) (by kernel_rfl) (by kernel_rfl) (RdG.cons (t := 3) (off := 0) (m := 23) (RdC.int Try.underlying3) (by kernel_rfl) (fun _ => rfl) (RdG.sub (t := 36) (off := 1) (m := 2) (k := 21) ((RdC.structG (t := 36) (m := 21) (fs := [(3, 0), (30, 1), (31, 2), (23, 3), (33, 13), (2, 19), (3, 20)]) (by kernel_rfl) (by kernel_rfl) (RdG.cons (t := 3) (off := 0) (m := 20) (RdC.int Try.underlying3) (by kernel_rfl) (fun _ => rfl) (RdG.cons (t := 30) (off := 1) (m := 19) ((RdC.slice none Try.underlying30 (by kernel_rfl) (by decide) (by intro _; rfl) (RdC.int Try.underlying5)).mono (Nat.le_succ _)) (by kernel_rfl) (fun _ => rfl) (RdG.cons (t := 31) (off := 2) (m := 18) ((RdC.slice none Try.underlying31 (by kernel_rfl) (by decide) (by intro _; rfl) (RdC.int Try.underlying3)).mono (Nat.le_succ _)) (by kernel_rfl) (fun _ => rfl) (RdG.sub (t := 23) (off := 3) (m := 8) (k := 10) ((RdC.structG (t := 23) (m := 10) (fs := [(2, 0), (2, 1), (4, 2), (4, 3), (2, 4), (2, 5), (2, 6), (4, 7), (4, 8), (4, 9)]) (by kernel_rfl) (by kernel_rfl) (RdG.cons (t := 2) (off := 0) (m := 9) (RdC.int Try.underlying2) (by kernel_rfl) (fun _ => rfl) (RdG.cons (t := 2) (off := 1) (m := 8) (RdC.int Try.underlying2) (by kernel_rfl) (fun _ => rfl) (RdG.cons (t := 4) (off := 2) (m := 7) (RdC.bool Try.underlying4) (by kernel_rfl) (fun _ => rfl) (RdG.cons (t := 4) (off := 3) (m := 6) (RdC.bool Try.underlying4) (by kernel_rfl) (fun _ => rfl) (RdG.cons (t := 2) (off := 4) (m := 5) (RdC.int Try.underlying2) (by kernel_rfl) (fun _ => rfl) (RdG.cons (t := 2) (off := 5) (m := 4) (RdC.int Try.underlying2) (by kernel_rfl) (fun _ => rfl) (RdG.cons (t := 2) (off := 6) (m := 3) (RdC.int Try.underlying2) (by kernel_rfl) (fun _ => rfl) (RdG.cons (t := 4) (off := 7) (m := 2) (RdC.bool Try.underlying4) (by kernel_rfl) (fun _ => rfl) (RdG.cons (t := 4) (off := 8) (m := 1) (RdC.bool Try.underlying4) (by kernel_rfl) (fun _ => rfl) (RdG.cons (t := 4) (off := 9) (m := 0) (RdC.bool Try.underlying4) (by kernel_rfl) (fun _ => rfl) (RdG.nil (off := 10))))))))))))).mono (Nat.le_succ _)) (by kernel_rfl) (RdG.sub (t := 33) (off := 13) (m := 2) (k := 6) ((RdC.structG (t := 33) (m := 6) (fs := [(3, 0), (2, 1), (9, 2), (30, 3), (3, 4), (3, 5)]) (by kernel_rfl) (by kernel_rfl) (RdG.cons (t := 3) (off := 0) (m := 5) (RdC.int Try.underlying3) (by kernel_rfl) (fun _ => rfl) (RdG.cons (t := 2) (off := 1) (m := 4) (RdC.int Try.underlying2) (by kernel_rfl) (fun _ => rfl) (RdG.cons (t := 9) (off := 2) (m := 3) (RdC.string Try.underlying9) (by kernel_rfl) (fun _ => rfl) (RdG.cons (t := 30) (off := 3) (m := 2) ((RdC.slice none Try.underlying30 (by kernel_rfl) (by decide) (by intro _; rfl) (RdC.int Try.underlying5)).mono (Nat.le_succ _)) (by kernel_rfl) (fun _ => rfl) (RdG.cons (t := 3) (off := 4) (m := 1) (RdC.int Try.underlying3) (by kernel_rfl) (fun _ => rfl) (RdG.cons (t := 3) (off := 5) (m := 0) (RdC.int Try.underlying3) (by kernel_rfl) (fun _ => rfl) (RdG.nil (off := 6))))))))).mono (Nat.le_succ _)) (by kernel_rfl) (RdG.cons (t := 2) (off := 19) (m := 1) (RdC.int Try.underlying2) (by kernel_rfl) (fun _ => rfl) (RdG.cons (t := 3) (off := 20) (m := 0) (RdC.int Try.underlying3) (by kernel_rfl) (fun _ => rfl) (RdG.nil (off := 21)))))))))).mono (Nat.le_succ _)) (by kernel_rfl) (RdG.cons (t := 39) (off := 22) (m := 1) ((RdC.slice (some 6) Try.underlying39 (by kernel_rfl) (by decide) (by intro _; exact ⟨rfl, rfl⟩) ((RdC.structG (t := 33) (m := 6) (fs := [(3, 0), (2, 1), (9, 2), (30, 3), (3, 4), (3, 5)]) (by kernel_rfl) (by kernel_rfl) (RdG.cons (t := 3) (off := 0) (m := 5) (RdC.int Try.underlying3) (by kernel_rfl) (fun _ => rfl) (RdG.cons (t := 2) (off := 1) (m := 4) (RdC.int Try.underlying2) (by kernel_rfl) (fun _ => rfl) (RdG.cons (t := 9) (off := 2) (m := 3) (RdC.string Try.underlying9) (by kernel_rfl) (fun _ => rfl) (RdG.cons (t := 30) (off := 3) (m := 2) ((RdC.slice none Try.underlying30 (by kernel_rfl) (by decide) (by intro _; rfl) (RdC.int Try.underlying5)).mono (Nat.le_succ _)) (by kernel_rfl) (fun _ => rfl) (RdG.cons (t := 3) (off := 4) (m := 1) (RdC.int Try.underlying3) (by kernel_rfl) (fun _ => rfl) (RdG.cons (t := 3) (off := 5) (m := 0) (RdC.int Try.underlying3) (by kernel_rfl) (fun _ => rfl) (RdG.nil (off := 6))))))))).mono (Nat.le_succ _))).mono (Nat.le_succ _)) (by kernel_rfl) (fun _ => rfl) (RdG.cons (t := 2) (off := 23) (m := 0) (RdC.int Try.underlying2) (by kernel_rfl) (fun _ => rfl) (RdG.nil (off := 24))))))).mono (Nat.le_succ _))).mono (Nat.le_succ _))) h0
  obtain ⟨k, hk⟩ := law_plays x0 w0
  have hfn := f6_ok k Out [.sl true (some 24) _] [] some ⟨.v (.bool true), []⟩ (hk (fun u => some (f6_out u)))
  obtain ⟨_, o, hok, ho, _⟩ := hfn
  cases ho
  refine (law_calls (hok.fn (ent_of Try.func6 (by kernel_rfl) rfl)) (VRelL.cons.2 ⟨c0, VRelL.nil⟩)).mono fun e W' ⟨he, bel⟩ => ?_
  subst he
  exact ⟨_, rfl, _, _, _, [], _, [], hW', trodAll_mk1 (shut_bool Try.underlying4 _), (trodAll_cons_mk (Below.trod laidOut (by kernel_rfl) (of_decide_eq_true (by kernel_rfl)) h0 bel lt0) trodAll_mk0), rfl, bel.frame _, fun h => by cases h⟩
theorem over : Rows.watchPlaysRow.holds Try.pinned (OpenSpec.ofChange Rows.watchPlaysSpec) :=
  OpenClaim.holds_of_wide 6 Try.f6 rfl rfl rfl rfl rfl rfl rfl ⟨rfl, rfl, rfl, rfl, rfl⟩ rfl rfl rfl rfl rfl (by kernel_rfl) Try.func6 (by kernel_rfl)
    (of_decide_eq_true (by kernel_rfl)) (by unfold Func.isWrapper; first | (rw [if_pos (by decide +kernel)]; kernel_rfl) | (rw [if_neg (by decide +kernel)]; exact ⟨rfl, rfl⟩))
    (fun os started H enc _ => lifted os started H enc)
theorem proved : Rows.WatchPlaysSaid := over
#print axioms proved
end Go.Proofs.Ythlaobnnhghcfaa.watchPlays
namespace Go.Proofs.Ythlaobnnhghcfaa
/-- The row, under a short name, for the claim. -/
theorem watchPlays_holds : Rows.WatchPlaysSaid := watchPlays.proved
end Go.Proofs.Ythlaobnnhghcfaa
