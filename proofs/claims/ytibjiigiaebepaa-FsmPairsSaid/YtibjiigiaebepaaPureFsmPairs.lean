/- Proved: which pair may follow which, at once and at last, and which can be at all, is as the document says; no condition. -/
import Derived.Test.YtibjiigiaebepaaFsmRef
namespace Go.Proofs.Ytibjiigiaebepaa.Pure
open Go.RowKit Go.Proofs.Ytibjiigiaebepaa.PAll Go.Proofs.YtibjiigiaebepaaW.PrintWords Go.Proofs.YtibjiigiaebepaaW.PrintLast Go.Proofs.YtibjiigiaebepaaW.PrintMore Go.Proofs.Ytibjiigiaebepaa.Fsm
theorem ref_known (a b : Int) : outpostref22_known.f a b = some (decide (0 ≤ a ∧ a ≤ 3 ∧ 0 ≤ b ∧ b ≤ 9)) := by
  have := known_f a b
  exact this
theorem ref_right (a b : Int) : outpostref22_Right.f a b = some (right a b) := by
  unfold outpostref22_Right.f right
  by_cases h0 : a = 0
  · subst h0
    by_cases h1 : 0 ≤ b
    · by_cases h2 : b ≤ 9
      · simp [h1, h2]
      · simp [h1, h2]
    · simp [h1]
  · by_cases h1 : 1 ≤ a
    · by_cases h2 : a ≤ 3
      · by_cases h3 : b = 0
        · simp [h0, h1, h2, h3]
        · simp [h0, h1, h2, h3]
      · simp [h0, h1, h2]
    · simp [h0, h1]
theorem ref_path (s r t q : Int) (h : 0 ≤ s ∧ s ≤ 3 ∧ 0 ≤ r ∧ r ≤ 9) : outpostref22_Path.f s r t q = some (expect s r t q) := by
  unfold outpostref22_Path.f
  rw [ref_known, ref_known, decide_eq_true h]
  simp only [Option.bind_some, if_true]
  by_cases hk : 0 ≤ t ∧ t ≤ 3 ∧ 0 ≤ q ∧ q ≤ 9
  · rw [decide_eq_true hk]
    simp only [if_true, ref_right, Option.bind_some, expect]
    by_cases h1 : s = t
    · by_cases h2 : r = q
      · simp [h1, h2]
      · simp [h1, h2]
    · simp [h1]
  · have : expect s r t q = false := by
      simp only [expect, right, Bool.or_eq_false_iff, decide_eq_false_iff_not]
      refine ⟨?_, ?_, ?_⟩ <;> omega
    rw [decide_eq_false hk, this]
    simp
theorem ref_path_f (s r t q : Int) : outpostref22_Path.f s r t q = some (path s r t q) := by
  unfold path
  by_cases h : 0 ≤ s ∧ s ≤ 3 ∧ 0 ≤ r ∧ r ≤ 9
  · rw [ref_path s r t q h, decide_eq_true h]; simp
  · rw [decide_eq_false h]
    unfold outpostref22_Path.f
    rw [ref_known, decide_eq_false h]
    simp
/-- The document's answer on pairs that are, looked at one by one. -/
theorem may_table : ((List.range 4).all fun s => (List.range 10).all fun r => (List.range 4).all fun t => (List.range 10).all fun q => outpostref22_May.f 20 (s : Int) (r : Int) (t : Int) (q : Int) == some (may (s : Int) (r : Int) (t : Int) (q : Int))) = true := by kernel_rfl
theorem ref_may (s r t q : Int) : Ev (fun k => outpostref22_May.f k s r t q) (may s r t q) := by
  by_cases h : 0 ≤ s ∧ s ≤ 3 ∧ 0 ≤ r ∧ r ≤ 9
  · by_cases hk : 0 ≤ t ∧ t ≤ 3 ∧ 0 ≤ q ∧ q ≤ 9
    · have := may_table
      simp only [List.all_eq_true, List.mem_range, beq_iff_eq] at this
      have := this s.toNat (by omega) r.toNat (by omega) t.toNat (by omega) q.toNat (by omega)
      rw [Int.toNat_of_nonneg h.1, Int.toNat_of_nonneg h.2.2.1, Int.toNat_of_nonneg hk.1, Int.toNat_of_nonneg hk.2.2.1] at this
      exact Ev.of (fun k => outpostref22_May.mono s r t q k) this
    · unfold outpostref22_May.f may
      rw [ref_known, ref_known, decide_eq_true h, decide_eq_false hk]
      simp only [Option.bind_some, if_true, Bool.false_and, Bool.and_false, Bool.not_false]
      refine Ev.step (f := fun _ => some false) (fun k => ?_) (Ev.now _)
      simp only [outpostref22_May.j0]
      rfl
  · unfold outpostref22_May.f may
    rw [ref_known, decide_eq_false h]
    simp only [Option.bind_some, Bool.false_and]
    refine Ev.step (f := fun _ => some false) (fun k => ?_) (Ev.now _)
    simp [outpostref22_May.j0]
theorem FsmPairs : outpostlaw22_FsmPairs.Pure := by
  intro a0 a1 a2 a3 _ _ _ _
  refine Ev.rounds ?_
  unfold outpostlaw22_FsmPairs.f
  refine Ev.bind alive_f ?_
  simp only [if_true]
  refine Ev.bind (may_f a0 a1 a2 a3) ?_
  refine Ev.bind (ref_may a0 a1 a2 a3) ?_
  simp only [beq_self_eq_true, if_true, ref_path_f, ref_right, Option.bind_some]
  refine Ev.bind (path_f a0 a1 a2 a3) ?_
  simp only [beq_self_eq_true, if_true]
  refine Ev.bind (right_f a2 a3) ?_
  simp only [beq_self_eq_true]
  exact Ev.now _
end Go.Proofs.Ytibjiigiaebepaa.Pure
