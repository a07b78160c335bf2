/- Proved: each event leads from each state where the document says, and the edges are just these, in order; no condition. -/
import Derived.Test.YtibjiigiaebepaaFsmRef
namespace Go.Proofs.Ytibjiigiaebepaa.Pure
open Go.RowKit Go.Proofs.Ytibjiigiaebepaa.PAll Go.Proofs.YtibjiigiaebepaaW.PrintWords Go.Proofs.YtibjiigiaebepaaW.PrintLast Go.Proofs.YtibjiigiaebepaaW.PrintMore Go.Proofs.Ytibjiigiaebepaa.Fsm
theorem in_order : Ev (fun k => outpostlaw22_FsmEdges.j0 k false) true := Ev.of (fun k => (outpostlaw22_FsmEdges.mono_l k).1 false) (k := 100) (by kernel_rfl)
theorem FsmEdges : outpostlaw22_FsmEdges.Pure := by
  intro a0 a1 a2 _ _ _
  refine Ev.rounds ?_
  unfold outpostlaw22_FsmEdges.f
  refine Ev.bind alive_f ?_
  simp only [if_true]
  refine Ev.bind (next_f a0 a1 a2) ?_
  have hA := agrees a0 a1 a2
  unfold Agrees at hA
  cases hf : EL.find? (fits a0 a1 a2) with
  | none =>
    rw [hf] at hA
    obtain ⟨t, q, hq⟩ := hA
    simp only [hq, nextOf, Option.bind_some]
    exact in_order
  | some x =>
    rw [hf] at hA
    obtain ⟨hx, h0, h1, _⟩ := mem_fits hf
    simp only [hA, nextOf, Option.bind_some]
    refine Ev.congr (fun k => ?_) in_order
    rw [if_neg (by decide), if_pos trivial, if_pos h0, if_pos h1, if_pos trivial, if_pos trivial]
end Go.Proofs.Ytibjiigiaebepaa.Pure
