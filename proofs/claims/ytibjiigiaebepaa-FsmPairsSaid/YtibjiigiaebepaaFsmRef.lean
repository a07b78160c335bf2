/- The document's answers, held against the diagram's edges. -/
import Derived.Test.YtibjiigiaebepaaFsmReach
namespace Go.Proofs.Ytibjiigiaebepaa.Fsm
open Go.RowKit Go.Proofs.Ytibjiigiaebepaa.PAll Go.Proofs.YtibjiigiaebepaaW.PrintWords Go.Proofs.YtibjiigiaebepaaW.PrintLast Go.Proofs.YtibjiigiaebepaaW.PrintMore
set_option linter.unusedSimpArgs false
theorem alive_f : Ev (fun k => outpostlaw22_alive.f k) true := Ev.of (fun k => outpostlaw22_alive.mono k) (k := 400) (by kernel_rfl)
/-- The document's next, as the edges give it. -/
def Agrees (s e r : Int) : Prop := match EL.find? (fits s e r) with
  | some x => outpostref22_Next.f s e r = some (x.f2, x.f3, true)
  | none => ∃ t q, outpostref22_Next.f s e r = some (t, q, false)
theorem state_cases (s : Int) : s = 0 ∨ s = 1 ∨ s = 2 ∨ s = 3 ∨ (¬ s = 0 ∧ ¬ s = 1 ∧ ¬ s = 2 ∧ ¬ s = 3) := by omega
theorem event_cases (e : Int) : e = 1 ∨ e = 2 ∨ e = 3 ∨ e = 4 ∨ e = 5 ∨ e = 6 ∨ e = 7 ∨ e = 8 ∨ (¬ e = 1 ∧ ¬ e = 2 ∧ ¬ e = 3 ∧ ¬ e = 4 ∧ ¬ e = 5 ∧ ¬ e = 6 ∧ ¬ e = 7 ∧ ¬ e = 8) := by omega
theorem result_cases (r : Int) : r = 2 ∨ r = 3 ∨ r = 4 ∨ r = 5 ∨ r = 6 ∨ r = 7 ∨ r = 8 ∨ r = 9 ∨ r < 2 ∨ 9 < r := by omega
theorem el_event (x : S24) (h : x ∈ EL) : 1 ≤ x.f0 ∧ x.f0 ≤ 8 ∧ 0 ≤ x.f1 ∧ x.f1 ≤ 3 ∧ 0 ≤ x.f2 ∧ x.f2 ≤ 3 ∧ 0 ≤ x.f3 ∧ x.f3 ≤ 9 := el_all (fun x => 1 ≤ x.f0 ∧ x.f0 ≤ 8 ∧ 0 ≤ x.f1 ∧ x.f1 ≤ 3 ∧ 0 ≤ x.f2 ∧ x.f2 ≤ 3 ∧ 0 ≤ x.f3 ∧ x.f3 ≤ 9) (by decide) x h
theorem none_of {s e r : Int} (h : ∀ x ∈ EL, ¬ (x.f0 = e ∧ x.f1 = s ∧ (e ≠ 3 ∨ x.f3 = r))) : EL.find? (fits s e r) = none := by
  rw [List.find?_eq_none]
  intro x hx
  simpa only [fits, Bool.and_eq_true, Bool.or_eq_true, decide_eq_true_eq] using h x hx
theorem agrees (s e r : Int) : Agrees s e r := by
  rcases event_cases e with rfl | rfl | rfl | rfl | rfl | rfl | rfl | rfl | he
  case inr.inr.inr.inr.inr.inr.inr.inr =>
    have hn : EL.find? (fits s e r) = none := none_of (fun x hx h => by have := el_event x hx; omega)
    unfold Agrees
    rw [hn]
    obtain ⟨a1, a2, a3, a4, a5, a6, a7, a8⟩ := he
    exact ⟨0, 0, by simp [outpostref22_Next.f, *]⟩
  case inr.inr.inl =>
    rcases state_cases s with rfl | rfl | rfl | rfl | ⟨h0, h1, h2, h3⟩
    case inr.inl =>
      rcases result_cases r with rfl | rfl | rfl | rfl | rfl | rfl | rfl | rfl | hr | hr
      case inr.inr.inr.inr.inr.inr.inr.inr.inl =>
        have hn : EL.find? (fits 1 3 r) = none := none_of (el_all _ (by simp [EL]; omega))
        unfold Agrees
        rw [hn]
        exact ⟨0, r, by simp [outpostref22_Next.f]; omega⟩
      case inr.inr.inr.inr.inr.inr.inr.inr.inr =>
        have hn : EL.find? (fits 1 3 r) = none := none_of (el_all _ (by simp [EL]; omega))
        unfold Agrees
        rw [hn]
        exact ⟨0, r, by simp [outpostref22_Next.f]; omega⟩
      all_goals simp [Agrees, EL, fits, outpostref22_Next.f]
    case inr.inr.inr.inr => simp [Agrees, EL, fits, outpostref22_Next.f, h0, h1, h2, h3, eq_comm]
    all_goals simp [Agrees, EL, fits, outpostref22_Next.f]
  all_goals
    rcases state_cases s with rfl | rfl | rfl | rfl | ⟨h0, h1, h2, h3⟩
    case inr.inr.inr.inr =>
      have hn : ∀ e, EL.find? (fits s e r) = none := fun e => none_of (fun x hx h => by have := el_event x hx; omega)
      unfold Agrees
      rw [hn]
      simp [outpostref22_Next.f, h0, h1, h2, h3]
    all_goals simp [Agrees, EL, fits, outpostref22_Next.f]
end Go.Proofs.Ytibjiigiaebepaa.Fsm
