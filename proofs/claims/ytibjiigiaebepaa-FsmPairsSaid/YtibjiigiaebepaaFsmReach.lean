/- What can be come to from each pair: the printed reach, evaluated at the 40 pairs that there are. -/
import Derived.Test.YtibjiigiaebepaaFsm
namespace Go.Proofs.Ytibjiigiaebepaa.Fsm
open Go.RowKit Go.Proofs.Ytibjiigiaebepaa.PAll Go.Proofs.YtibjiigiaebepaaW.PrintWords Go.Proofs.YtibjiigiaebepaaW.PrintLast Go.Proofs.YtibjiigiaebepaaW.PrintMore
def inL (L : List S42) (t q : Int) : Bool := L.any fun x => (t == x.f0) && (q == x.f1)
def RT : Nat → Nat → List S42
  | 0, 0 => [⟨0, 0⟩, ⟨1, 0⟩, ⟨2, 0⟩, ⟨0, 2⟩, ⟨0, 3⟩, ⟨0, 4⟩, ⟨0, 5⟩, ⟨0, 6⟩, ⟨0, 7⟩, ⟨0, 8⟩, ⟨0, 9⟩, ⟨3, 0⟩, ⟨0, 1⟩]
  | 0, 1 => [⟨0, 1⟩, ⟨1, 0⟩, ⟨0, 0⟩, ⟨2, 0⟩, ⟨0, 2⟩, ⟨0, 3⟩, ⟨0, 4⟩, ⟨0, 5⟩, ⟨0, 6⟩, ⟨0, 7⟩, ⟨0, 8⟩, ⟨0, 9⟩, ⟨3, 0⟩]
  | 0, 2 => [⟨0, 2⟩, ⟨1, 0⟩, ⟨0, 0⟩, ⟨2, 0⟩, ⟨0, 3⟩, ⟨0, 4⟩, ⟨0, 5⟩, ⟨0, 6⟩, ⟨0, 7⟩, ⟨0, 8⟩, ⟨0, 9⟩, ⟨3, 0⟩, ⟨0, 1⟩]
  | 0, 3 => [⟨0, 3⟩, ⟨1, 0⟩, ⟨0, 0⟩, ⟨2, 0⟩, ⟨0, 2⟩, ⟨0, 4⟩, ⟨0, 5⟩, ⟨0, 6⟩, ⟨0, 7⟩, ⟨0, 8⟩, ⟨0, 9⟩, ⟨3, 0⟩, ⟨0, 1⟩]
  | 0, 4 => [⟨0, 4⟩, ⟨1, 0⟩, ⟨0, 0⟩, ⟨2, 0⟩, ⟨0, 2⟩, ⟨0, 3⟩, ⟨0, 5⟩, ⟨0, 6⟩, ⟨0, 7⟩, ⟨0, 8⟩, ⟨0, 9⟩, ⟨3, 0⟩, ⟨0, 1⟩]
  | 0, 5 => [⟨0, 5⟩, ⟨1, 0⟩, ⟨0, 0⟩, ⟨2, 0⟩, ⟨0, 2⟩, ⟨0, 3⟩, ⟨0, 4⟩, ⟨0, 6⟩, ⟨0, 7⟩, ⟨0, 8⟩, ⟨0, 9⟩, ⟨3, 0⟩, ⟨0, 1⟩]
  | 0, 6 => [⟨0, 6⟩, ⟨1, 0⟩, ⟨0, 0⟩, ⟨2, 0⟩, ⟨0, 2⟩, ⟨0, 3⟩, ⟨0, 4⟩, ⟨0, 5⟩, ⟨0, 7⟩, ⟨0, 8⟩, ⟨0, 9⟩, ⟨3, 0⟩, ⟨0, 1⟩]
  | 0, 7 => [⟨0, 7⟩, ⟨1, 0⟩, ⟨0, 0⟩, ⟨2, 0⟩, ⟨0, 2⟩, ⟨0, 3⟩, ⟨0, 4⟩, ⟨0, 5⟩, ⟨0, 6⟩, ⟨0, 8⟩, ⟨0, 9⟩, ⟨3, 0⟩, ⟨0, 1⟩]
  | 0, 8 => [⟨0, 8⟩, ⟨1, 0⟩, ⟨0, 0⟩, ⟨2, 0⟩, ⟨0, 2⟩, ⟨0, 3⟩, ⟨0, 4⟩, ⟨0, 5⟩, ⟨0, 6⟩, ⟨0, 7⟩, ⟨0, 9⟩, ⟨3, 0⟩, ⟨0, 1⟩]
  | 0, 9 => [⟨0, 9⟩, ⟨1, 0⟩, ⟨0, 0⟩, ⟨2, 0⟩, ⟨0, 2⟩, ⟨0, 3⟩, ⟨0, 4⟩, ⟨0, 5⟩, ⟨0, 6⟩, ⟨0, 7⟩, ⟨0, 8⟩, ⟨3, 0⟩, ⟨0, 1⟩]
  | 1, 0 => [⟨1, 0⟩, ⟨2, 0⟩, ⟨0, 2⟩, ⟨0, 3⟩, ⟨0, 4⟩, ⟨0, 5⟩, ⟨0, 6⟩, ⟨0, 7⟩, ⟨0, 8⟩, ⟨0, 9⟩, ⟨0, 0⟩, ⟨3, 0⟩, ⟨0, 1⟩]
  | 1, 1 => [⟨1, 1⟩, ⟨2, 0⟩, ⟨0, 2⟩, ⟨0, 3⟩, ⟨0, 4⟩, ⟨0, 5⟩, ⟨0, 6⟩, ⟨0, 7⟩, ⟨0, 8⟩, ⟨0, 9⟩, ⟨0, 0⟩, ⟨3, 0⟩, ⟨1, 0⟩, ⟨0, 1⟩]
  | 1, 2 => [⟨1, 2⟩, ⟨2, 0⟩, ⟨0, 2⟩, ⟨0, 3⟩, ⟨0, 4⟩, ⟨0, 5⟩, ⟨0, 6⟩, ⟨0, 7⟩, ⟨0, 8⟩, ⟨0, 9⟩, ⟨0, 0⟩, ⟨3, 0⟩, ⟨1, 0⟩, ⟨0, 1⟩]
  | 1, 3 => [⟨1, 3⟩, ⟨2, 0⟩, ⟨0, 2⟩, ⟨0, 3⟩, ⟨0, 4⟩, ⟨0, 5⟩, ⟨0, 6⟩, ⟨0, 7⟩, ⟨0, 8⟩, ⟨0, 9⟩, ⟨0, 0⟩, ⟨3, 0⟩, ⟨1, 0⟩, ⟨0, 1⟩]
  | 1, 4 => [⟨1, 4⟩, ⟨2, 0⟩, ⟨0, 2⟩, ⟨0, 3⟩, ⟨0, 4⟩, ⟨0, 5⟩, ⟨0, 6⟩, ⟨0, 7⟩, ⟨0, 8⟩, ⟨0, 9⟩, ⟨0, 0⟩, ⟨3, 0⟩, ⟨1, 0⟩, ⟨0, 1⟩]
  | 1, 5 => [⟨1, 5⟩, ⟨2, 0⟩, ⟨0, 2⟩, ⟨0, 3⟩, ⟨0, 4⟩, ⟨0, 5⟩, ⟨0, 6⟩, ⟨0, 7⟩, ⟨0, 8⟩, ⟨0, 9⟩, ⟨0, 0⟩, ⟨3, 0⟩, ⟨1, 0⟩, ⟨0, 1⟩]
  | 1, 6 => [⟨1, 6⟩, ⟨2, 0⟩, ⟨0, 2⟩, ⟨0, 3⟩, ⟨0, 4⟩, ⟨0, 5⟩, ⟨0, 6⟩, ⟨0, 7⟩, ⟨0, 8⟩, ⟨0, 9⟩, ⟨0, 0⟩, ⟨3, 0⟩, ⟨1, 0⟩, ⟨0, 1⟩]
  | 1, 7 => [⟨1, 7⟩, ⟨2, 0⟩, ⟨0, 2⟩, ⟨0, 3⟩, ⟨0, 4⟩, ⟨0, 5⟩, ⟨0, 6⟩, ⟨0, 7⟩, ⟨0, 8⟩, ⟨0, 9⟩, ⟨0, 0⟩, ⟨3, 0⟩, ⟨1, 0⟩, ⟨0, 1⟩]
  | 1, 8 => [⟨1, 8⟩, ⟨2, 0⟩, ⟨0, 2⟩, ⟨0, 3⟩, ⟨0, 4⟩, ⟨0, 5⟩, ⟨0, 6⟩, ⟨0, 7⟩, ⟨0, 8⟩, ⟨0, 9⟩, ⟨0, 0⟩, ⟨3, 0⟩, ⟨1, 0⟩, ⟨0, 1⟩]
  | 1, 9 => [⟨1, 9⟩, ⟨2, 0⟩, ⟨0, 2⟩, ⟨0, 3⟩, ⟨0, 4⟩, ⟨0, 5⟩, ⟨0, 6⟩, ⟨0, 7⟩, ⟨0, 8⟩, ⟨0, 9⟩, ⟨0, 0⟩, ⟨3, 0⟩, ⟨1, 0⟩, ⟨0, 1⟩]
  | 2, 0 => [⟨2, 0⟩, ⟨0, 0⟩, ⟨3, 0⟩, ⟨0, 5⟩, ⟨1, 0⟩, ⟨0, 1⟩, ⟨0, 8⟩, ⟨0, 2⟩, ⟨0, 3⟩, ⟨0, 4⟩, ⟨0, 6⟩, ⟨0, 7⟩, ⟨0, 9⟩]
  | 2, 1 => [⟨2, 1⟩, ⟨0, 0⟩, ⟨3, 0⟩, ⟨0, 5⟩, ⟨1, 0⟩, ⟨0, 1⟩, ⟨0, 8⟩, ⟨2, 0⟩, ⟨0, 2⟩, ⟨0, 3⟩, ⟨0, 4⟩, ⟨0, 6⟩, ⟨0, 7⟩, ⟨0, 9⟩]
  | 2, 2 => [⟨2, 2⟩, ⟨0, 0⟩, ⟨3, 0⟩, ⟨0, 5⟩, ⟨1, 0⟩, ⟨0, 1⟩, ⟨0, 8⟩, ⟨2, 0⟩, ⟨0, 2⟩, ⟨0, 3⟩, ⟨0, 4⟩, ⟨0, 6⟩, ⟨0, 7⟩, ⟨0, 9⟩]
  | 2, 3 => [⟨2, 3⟩, ⟨0, 0⟩, ⟨3, 0⟩, ⟨0, 5⟩, ⟨1, 0⟩, ⟨0, 1⟩, ⟨0, 8⟩, ⟨2, 0⟩, ⟨0, 2⟩, ⟨0, 3⟩, ⟨0, 4⟩, ⟨0, 6⟩, ⟨0, 7⟩, ⟨0, 9⟩]
  | 2, 4 => [⟨2, 4⟩, ⟨0, 0⟩, ⟨3, 0⟩, ⟨0, 5⟩, ⟨1, 0⟩, ⟨0, 1⟩, ⟨0, 8⟩, ⟨2, 0⟩, ⟨0, 2⟩, ⟨0, 3⟩, ⟨0, 4⟩, ⟨0, 6⟩, ⟨0, 7⟩, ⟨0, 9⟩]
  | 2, 5 => [⟨2, 5⟩, ⟨0, 0⟩, ⟨3, 0⟩, ⟨0, 5⟩, ⟨1, 0⟩, ⟨0, 1⟩, ⟨0, 8⟩, ⟨2, 0⟩, ⟨0, 2⟩, ⟨0, 3⟩, ⟨0, 4⟩, ⟨0, 6⟩, ⟨0, 7⟩, ⟨0, 9⟩]
  | 2, 6 => [⟨2, 6⟩, ⟨0, 0⟩, ⟨3, 0⟩, ⟨0, 5⟩, ⟨1, 0⟩, ⟨0, 1⟩, ⟨0, 8⟩, ⟨2, 0⟩, ⟨0, 2⟩, ⟨0, 3⟩, ⟨0, 4⟩, ⟨0, 6⟩, ⟨0, 7⟩, ⟨0, 9⟩]
  | 2, 7 => [⟨2, 7⟩, ⟨0, 0⟩, ⟨3, 0⟩, ⟨0, 5⟩, ⟨1, 0⟩, ⟨0, 1⟩, ⟨0, 8⟩, ⟨2, 0⟩, ⟨0, 2⟩, ⟨0, 3⟩, ⟨0, 4⟩, ⟨0, 6⟩, ⟨0, 7⟩, ⟨0, 9⟩]
  | 2, 8 => [⟨2, 8⟩, ⟨0, 0⟩, ⟨3, 0⟩, ⟨0, 5⟩, ⟨1, 0⟩, ⟨0, 1⟩, ⟨0, 8⟩, ⟨2, 0⟩, ⟨0, 2⟩, ⟨0, 3⟩, ⟨0, 4⟩, ⟨0, 6⟩, ⟨0, 7⟩, ⟨0, 9⟩]
  | 2, 9 => [⟨2, 9⟩, ⟨0, 0⟩, ⟨3, 0⟩, ⟨0, 5⟩, ⟨1, 0⟩, ⟨0, 1⟩, ⟨0, 8⟩, ⟨2, 0⟩, ⟨0, 2⟩, ⟨0, 3⟩, ⟨0, 4⟩, ⟨0, 6⟩, ⟨0, 7⟩, ⟨0, 9⟩]
  | 3, 0 => [⟨3, 0⟩, ⟨0, 1⟩, ⟨0, 8⟩, ⟨1, 0⟩, ⟨0, 0⟩, ⟨2, 0⟩, ⟨0, 2⟩, ⟨0, 3⟩, ⟨0, 4⟩, ⟨0, 5⟩, ⟨0, 6⟩, ⟨0, 7⟩, ⟨0, 9⟩]
  | 3, 1 => [⟨3, 1⟩, ⟨0, 1⟩, ⟨0, 8⟩, ⟨1, 0⟩, ⟨0, 0⟩, ⟨2, 0⟩, ⟨0, 2⟩, ⟨0, 3⟩, ⟨0, 4⟩, ⟨0, 5⟩, ⟨0, 6⟩, ⟨0, 7⟩, ⟨0, 9⟩, ⟨3, 0⟩]
  | 3, 2 => [⟨3, 2⟩, ⟨0, 1⟩, ⟨0, 8⟩, ⟨1, 0⟩, ⟨0, 0⟩, ⟨2, 0⟩, ⟨0, 2⟩, ⟨0, 3⟩, ⟨0, 4⟩, ⟨0, 5⟩, ⟨0, 6⟩, ⟨0, 7⟩, ⟨0, 9⟩, ⟨3, 0⟩]
  | 3, 3 => [⟨3, 3⟩, ⟨0, 1⟩, ⟨0, 8⟩, ⟨1, 0⟩, ⟨0, 0⟩, ⟨2, 0⟩, ⟨0, 2⟩, ⟨0, 3⟩, ⟨0, 4⟩, ⟨0, 5⟩, ⟨0, 6⟩, ⟨0, 7⟩, ⟨0, 9⟩, ⟨3, 0⟩]
  | 3, 4 => [⟨3, 4⟩, ⟨0, 1⟩, ⟨0, 8⟩, ⟨1, 0⟩, ⟨0, 0⟩, ⟨2, 0⟩, ⟨0, 2⟩, ⟨0, 3⟩, ⟨0, 4⟩, ⟨0, 5⟩, ⟨0, 6⟩, ⟨0, 7⟩, ⟨0, 9⟩, ⟨3, 0⟩]
  | 3, 5 => [⟨3, 5⟩, ⟨0, 1⟩, ⟨0, 8⟩, ⟨1, 0⟩, ⟨0, 0⟩, ⟨2, 0⟩, ⟨0, 2⟩, ⟨0, 3⟩, ⟨0, 4⟩, ⟨0, 5⟩, ⟨0, 6⟩, ⟨0, 7⟩, ⟨0, 9⟩, ⟨3, 0⟩]
  | 3, 6 => [⟨3, 6⟩, ⟨0, 1⟩, ⟨0, 8⟩, ⟨1, 0⟩, ⟨0, 0⟩, ⟨2, 0⟩, ⟨0, 2⟩, ⟨0, 3⟩, ⟨0, 4⟩, ⟨0, 5⟩, ⟨0, 6⟩, ⟨0, 7⟩, ⟨0, 9⟩, ⟨3, 0⟩]
  | 3, 7 => [⟨3, 7⟩, ⟨0, 1⟩, ⟨0, 8⟩, ⟨1, 0⟩, ⟨0, 0⟩, ⟨2, 0⟩, ⟨0, 2⟩, ⟨0, 3⟩, ⟨0, 4⟩, ⟨0, 5⟩, ⟨0, 6⟩, ⟨0, 7⟩, ⟨0, 9⟩, ⟨3, 0⟩]
  | 3, 8 => [⟨3, 8⟩, ⟨0, 1⟩, ⟨0, 8⟩, ⟨1, 0⟩, ⟨0, 0⟩, ⟨2, 0⟩, ⟨0, 2⟩, ⟨0, 3⟩, ⟨0, 4⟩, ⟨0, 5⟩, ⟨0, 6⟩, ⟨0, 7⟩, ⟨0, 9⟩, ⟨3, 0⟩]
  | 3, 9 => [⟨3, 9⟩, ⟨0, 1⟩, ⟨0, 8⟩, ⟨1, 0⟩, ⟨0, 0⟩, ⟨2, 0⟩, ⟨0, 2⟩, ⟨0, 3⟩, ⟨0, 4⟩, ⟨0, 5⟩, ⟨0, 6⟩, ⟨0, 7⟩, ⟨0, 9⟩, ⟨3, 0⟩]
  | _, _ => []
theorem reach_0_0 : fsm_reach.f 300 0 0 = some (RT 0 0) := by kernel_rfl
theorem reach_0_1 : fsm_reach.f 300 0 1 = some (RT 0 1) := by kernel_rfl
theorem reach_0_2 : fsm_reach.f 300 0 2 = some (RT 0 2) := by kernel_rfl
theorem reach_0_3 : fsm_reach.f 300 0 3 = some (RT 0 3) := by kernel_rfl
theorem reach_0_4 : fsm_reach.f 300 0 4 = some (RT 0 4) := by kernel_rfl
theorem reach_0_5 : fsm_reach.f 300 0 5 = some (RT 0 5) := by kernel_rfl
theorem reach_0_6 : fsm_reach.f 300 0 6 = some (RT 0 6) := by kernel_rfl
theorem reach_0_7 : fsm_reach.f 300 0 7 = some (RT 0 7) := by kernel_rfl
theorem reach_0_8 : fsm_reach.f 300 0 8 = some (RT 0 8) := by kernel_rfl
theorem reach_0_9 : fsm_reach.f 300 0 9 = some (RT 0 9) := by kernel_rfl
theorem reach_1_0 : fsm_reach.f 300 1 0 = some (RT 1 0) := by kernel_rfl
theorem reach_1_1 : fsm_reach.f 300 1 1 = some (RT 1 1) := by kernel_rfl
theorem reach_1_2 : fsm_reach.f 300 1 2 = some (RT 1 2) := by kernel_rfl
theorem reach_1_3 : fsm_reach.f 300 1 3 = some (RT 1 3) := by kernel_rfl
theorem reach_1_4 : fsm_reach.f 300 1 4 = some (RT 1 4) := by kernel_rfl
theorem reach_1_5 : fsm_reach.f 300 1 5 = some (RT 1 5) := by kernel_rfl
theorem reach_1_6 : fsm_reach.f 300 1 6 = some (RT 1 6) := by kernel_rfl
theorem reach_1_7 : fsm_reach.f 300 1 7 = some (RT 1 7) := by kernel_rfl
theorem reach_1_8 : fsm_reach.f 300 1 8 = some (RT 1 8) := by kernel_rfl
theorem reach_1_9 : fsm_reach.f 300 1 9 = some (RT 1 9) := by kernel_rfl
theorem reach_2_0 : fsm_reach.f 300 2 0 = some (RT 2 0) := by kernel_rfl
theorem reach_2_1 : fsm_reach.f 300 2 1 = some (RT 2 1) := by kernel_rfl
theorem reach_2_2 : fsm_reach.f 300 2 2 = some (RT 2 2) := by kernel_rfl
theorem reach_2_3 : fsm_reach.f 300 2 3 = some (RT 2 3) := by kernel_rfl
theorem reach_2_4 : fsm_reach.f 300 2 4 = some (RT 2 4) := by kernel_rfl
theorem reach_2_5 : fsm_reach.f 300 2 5 = some (RT 2 5) := by kernel_rfl
theorem reach_2_6 : fsm_reach.f 300 2 6 = some (RT 2 6) := by kernel_rfl
theorem reach_2_7 : fsm_reach.f 300 2 7 = some (RT 2 7) := by kernel_rfl
theorem reach_2_8 : fsm_reach.f 300 2 8 = some (RT 2 8) := by kernel_rfl
theorem reach_2_9 : fsm_reach.f 300 2 9 = some (RT 2 9) := by kernel_rfl
theorem reach_3_0 : fsm_reach.f 300 3 0 = some (RT 3 0) := by kernel_rfl
theorem reach_3_1 : fsm_reach.f 300 3 1 = some (RT 3 1) := by kernel_rfl
theorem reach_3_2 : fsm_reach.f 300 3 2 = some (RT 3 2) := by kernel_rfl
theorem reach_3_3 : fsm_reach.f 300 3 3 = some (RT 3 3) := by kernel_rfl
theorem reach_3_4 : fsm_reach.f 300 3 4 = some (RT 3 4) := by kernel_rfl
theorem reach_3_5 : fsm_reach.f 300 3 5 = some (RT 3 5) := by kernel_rfl
theorem reach_3_6 : fsm_reach.f 300 3 6 = some (RT 3 6) := by kernel_rfl
theorem reach_3_7 : fsm_reach.f 300 3 7 = some (RT 3 7) := by kernel_rfl
theorem reach_3_8 : fsm_reach.f 300 3 8 = some (RT 3 8) := by kernel_rfl
theorem reach_3_9 : fsm_reach.f 300 3 9 = some (RT 3 9) := by kernel_rfl
theorem reach_f : ∀ (s r : Nat), s < 4 → r < 10 → fsm_reach.f 300 (s : Int) (r : Int) = some (RT s r)
  | 0, 0, _, _ => reach_0_0
  | 0, 1, _, _ => reach_0_1
  | 0, 2, _, _ => reach_0_2
  | 0, 3, _, _ => reach_0_3
  | 0, 4, _, _ => reach_0_4
  | 0, 5, _, _ => reach_0_5
  | 0, 6, _, _ => reach_0_6
  | 0, 7, _, _ => reach_0_7
  | 0, 8, _, _ => reach_0_8
  | 0, 9, _, _ => reach_0_9
  | 1, 0, _, _ => reach_1_0
  | 1, 1, _, _ => reach_1_1
  | 1, 2, _, _ => reach_1_2
  | 1, 3, _, _ => reach_1_3
  | 1, 4, _, _ => reach_1_4
  | 1, 5, _, _ => reach_1_5
  | 1, 6, _, _ => reach_1_6
  | 1, 7, _, _ => reach_1_7
  | 1, 8, _, _ => reach_1_8
  | 1, 9, _, _ => reach_1_9
  | 2, 0, _, _ => reach_2_0
  | 2, 1, _, _ => reach_2_1
  | 2, 2, _, _ => reach_2_2
  | 2, 3, _, _ => reach_2_3
  | 2, 4, _, _ => reach_2_4
  | 2, 5, _, _ => reach_2_5
  | 2, 6, _, _ => reach_2_6
  | 2, 7, _, _ => reach_2_7
  | 2, 8, _, _ => reach_2_8
  | 2, 9, _, _ => reach_2_9
  | 3, 0, _, _ => reach_3_0
  | 3, 1, _, _ => reach_3_1
  | 3, 2, _, _ => reach_3_2
  | 3, 3, _, _ => reach_3_3
  | 3, 4, _, _ => reach_3_4
  | 3, 5, _, _ => reach_3_5
  | 3, 6, _, _ => reach_3_6
  | 3, 7, _, _ => reach_3_7
  | 3, 8, _, _ => reach_3_8
  | 3, 9, _, _ => reach_3_9
  | s + 4, _, h, _ => by omega
  | _, r + 10, _, h => by omega
/-- Of a pair that is, the pairs that can be come to are itself and all that the first one leads to. -/
def expect (s r t q : Int) : Bool := decide (s = t ∧ r = q) || right t q
def check (L : List S42) (s r : Int) : Bool := decide (L.length ≤ 1000) && (L.all (fun x => decide (0 ≤ x.f0 ∧ x.f0 ≤ 3 ∧ 0 ≤ x.f1 ∧ x.f1 ≤ 9)) && (List.range 4).all fun t => (List.range 10).all fun q => inL L (t : Int) (q : Int) == expect s r (t : Int) (q : Int))
theorem checked : ((List.range 4).all fun s => (List.range 10).all fun r => check (RT s r) (s : Int) (r : Int)) = true := by kernel_rfl
theorem check_all {L : List S42} {s r : Int} (hs : 0 ≤ s ∧ s ≤ 3 ∧ 0 ≤ r ∧ r ≤ 9) (h : check L s r = true) (t q : Int) : inL L t q = expect s r t q := by
  simp only [check, Bool.and_eq_true, List.all_eq_true, decide_eq_true_eq, List.mem_range, beq_iff_eq] at h
  obtain ⟨_, h1, h2⟩ := h
  by_cases hk : 0 ≤ t ∧ t ≤ 3 ∧ 0 ≤ q ∧ q ≤ 9
  · have := h2 t.toNat (by omega) q.toNat (by omega)
    rw [Int.toNat_of_nonneg hk.1, Int.toNat_of_nonneg hk.2.2.1] at this
    exact this
  · have e1 : expect s r t q = false := by
      simp only [expect, right, Bool.or_eq_false_iff, decide_eq_false_iff_not]
      refine ⟨?_, ?_, ?_⟩ <;> omega
    rw [e1]
    simp only [inL, List.any_eq_false, Bool.and_eq_true, beq_iff_eq]
    intro x hx e
    have := h1 x hx
    omega
theorem rd_s42 (L : List S42) (i : Nat) (h : i < L.length) : rd_T42 L (i : Int) = L[i] := by simp [rd_T42, List.getD_eq_getElem?_getD, List.getElem?_eq_getElem h]
theorem pair_l0 (L : List S42) (t q : Int) (hn : L.length ≤ 1000) (d : Nat) : ∀ i : Nat, i + d = L.length → ∃ v : Int, decide (v ≥ 0) = inL (L.drop i) t q ∧ Ev (fun k => fsm_pair_25.l0 k L (L.length : Int) (i : Int) t q) v := by
  induction d with
  | zero =>
    intro i hi
    refine ⟨-1, ?_, Ev.step (f := fun _ => some (-1)) (fun k => ?_) (Ev.now _)⟩
    · rw [List.drop_eq_nil_of_le (by omega)]; rfl
    · simp only [fsm_pair_25.l0]
      rw [if_neg (by omega)]
  | succ d ih =>
    intro i hi
    have hl : i < L.length := by omega
    rw [List.drop_eq_getElem_cons hl]
    cases hf : ((t == L[i].f0) && (q == L[i].f1)) with
    | true =>
      refine ⟨i, ?_, Ev.step (f := fun _ => some (i : Int)) (fun k => ?_) (Ev.now _)⟩
      · simp only [inL, List.any_cons, hf, Bool.true_or]
        exact decide_eq_true (by omega)
      · simp only [fsm_pair_25.l0, rd_s42 L i hl]
        rw [if_pos (by omega), if_pos (by omega), if_pos (by omega), if_pos hf]
    | false =>
      obtain ⟨v, hv, he⟩ := ih (i + 1) (by omega)
      refine ⟨v, ?_, Ev.step (fun k => ?_) he⟩
      · rw [hv]
        simp only [inL, List.any_cons, hf, Bool.false_or]
      · simp only [fsm_pair_25.l0, rd_s42 L i hl]
        rw [if_pos (by omega), if_pos (by omega), if_pos (by omega), if_neg (by simp [hf]), wsucc _ (by omega)]
theorem has_f (L : List S42) (t q : Int) (hn : L.length ≤ 1000) : Ev (fun k => fsm_pair_22.f k L t q) (inL L t q) := by
  obtain ⟨v, hv, he⟩ := pair_l0 L t q hn L.length 0 (by omega)
  rw [List.drop_zero] at hv
  rw [← hv]
  exact Ev.bind he (Ev.now _)
def path (s r t q : Int) : Bool := decide (0 ≤ s ∧ s ≤ 3 ∧ 0 ≤ r ∧ r ≤ 9) && expect s r t q
theorem path_f (s r t q : Int) : Ev (fun k => fsm_Path.f k s r t q) (path s r t q) := by
  unfold fsm_Path.f path
  rw [known_f]
  cases hd : decide (0 ≤ s ∧ s ≤ 3 ∧ 0 ≤ r ∧ r ≤ 9) with
  | false => exact Ev.now _
  | true =>
    have hk := of_decide_eq_true hd
    have hc := checked
    simp only [List.all_eq_true, List.mem_range] at hc
    have hc := hc s.toNat (by omega) r.toNat (by omega)
    have hr := reach_f s.toNat r.toNat (by omega) (by omega)
    rw [Int.toNat_of_nonneg hk.1, Int.toNat_of_nonneg hk.2.2.1] at hc hr
    have hn : (RT s.toNat r.toNat).length ≤ 1000 := by
      simp only [check, Bool.and_eq_true, decide_eq_true_eq] at hc
      exact hc.1
    have hh := has_f (RT s.toNat r.toNat) t q hn
    rw [check_all hk hc t q] at hh
    refine Ev.bind (Ev.now true) ?_
    show Ev (fun k => (fsm_reach.f k s r).bind _) _
    exact Ev.bind (Ev.of (fun k => fsm_reach.mono s r k) hr) (Ev.bind hh (Ev.now _))
theorem right_f (t q : Int) : Ev (fun k => fsm_Right.f k t q) (right t q) := by
  have h := path_f 0 0 t q
  have e : path 0 0 t q = right t q := by
    have e0 : decide (0 ≤ (0 : Int) ∧ (0 : Int) ≤ 3 ∧ 0 ≤ (0 : Int) ∧ (0 : Int) ≤ 9) = true := by decide
    rw [path, e0, Bool.true_and]
    unfold expect
    by_cases h0 : (0 : Int) = t ∧ (0 : Int) = q
    · obtain ⟨rfl, rfl⟩ := h0
      rfl
    · rw [decide_eq_false h0, Bool.false_or]
  rw [e] at h
  exact Ev.bind h (Ev.now _)
end Go.Proofs.Ytibjiigiaebepaa.Fsm
