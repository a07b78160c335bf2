/- Proved: whatever events come, the pair stays one that can be, each follows the one ahead, and from each the first one can be come to again; no condition (the statement's own guard: up to 100 events). -/
import Derived.Test.YtibjiigiaebepaaFsmRef
namespace Go.Proofs.Ytibjiigiaebepaa.Pure
open Go.RowKit Go.Proofs.Ytibjiigiaebepaa.PAll Go.Proofs.YtibjiigiaebepaaW.PrintWords Go.Proofs.YtibjiigiaebepaaW.PrintLast Go.Proofs.YtibjiigiaebepaaW.PrintMore Go.Proofs.Ytibjiigiaebepaa.Fsm
theorem right_known {s r : Int} (h : right s r = true) : 0 ≤ s ∧ s ≤ 3 ∧ 0 ≤ r ∧ r ≤ 9 := by
  simp only [right, Bool.or_eq_true, decide_eq_true_eq] at h
  omega
theorem el_leads (x : S24) (h : x ∈ EL) : path 0 0 x.f2 x.f3 = true ∧ right x.f2 x.f3 = true ∧ path x.f2 x.f3 0 0 = true := el_all (fun x => path 0 0 x.f2 x.f3 = true ∧ right x.f2 x.f3 = true ∧ path x.f2 x.f3 0 0 = true) (by decide) x h
theorem el_may {x : S24} (h : x ∈ EL) {r : Int} (hr : 0 ≤ x.f1 ∧ x.f1 ≤ 3 ∧ 0 ≤ r ∧ r ≤ 9) : may x.f1 r x.f2 x.f3 = true := by
  have he := el_event x h
  unfold may
  rw [decide_eq_true hr, decide_eq_true (by omega)]
  simp only [Bool.true_and, Bool.or_eq_true]
  right
  rw [List.any_eq_true]
  exact ⟨x, h, by simp⟩
theorem name_f (s : Int) (h : 0 ≤ s ∧ s ≤ 3) : ∃ t, fsm_Name.f s = some t ∧ (t.toList != ([] : List UInt8)) = true := by
  have : s = 0 ∨ s = 1 ∨ s = 2 ∨ s = 3 := by omega
  rcases this with rfl | rfl | rfl | rfl <;> exact ⟨_, rfl, by kernel_rfl⟩
theorem walks_l0 (ev rs : List Int) (hn : ev.length ≤ 100) (d : Nat) : ∀ (i : Nat) (s r : Int), i + d = ev.length → right s r = true →
    Ev (fun k => outpostlaw22_FsmWalks.l0 k rs s r ev (ev.length : Int) (i : Int)) true := by
  induction d with
  | zero =>
    intro i s r hi hr
    obtain ⟨t, ht, hne⟩ := name_f s ⟨(right_known hr).1, (right_known hr).2.1⟩
    refine Ev.step (f := fun k => (fsm_Right.f k s r).bind fun t213 => (if t213 = true then ((fsm_Name.f s).bind fun t214 => (some (t214.toList != ([] : List UInt8)))) else (some false))) (fun k => ?_) ?_
    · simp only [outpostlaw22_FsmWalks.l0]
      rw [if_neg (by omega)]
    · have h := right_f s r
      rw [hr] at h
      refine Ev.bind h ?_
      simp only [if_true, ht, Option.bind_some, hne]
      exact Ev.now _
  | succ d ih =>
    intro i s r hi hr
    have hj : ∀ x : Int, Ev (fun k => outpostlaw22_FsmWalks.j2 k rs s r (rd ev (i : Int)) x ev (ev.length : Int) (i : Int)) true := by
      intro x
      refine Ev.step (fun k => by simp only [outpostlaw22_FsmWalks.j2]; exact rfl) ?_
      refine Ev.bind (next_f s (rd ev (i : Int)) x) ?_
      cases hf : EL.find? (fits s (rd ev (i : Int)) x) with
      | none =>
        simp only [nextOf, Bool.false_eq_true, if_false]
        refine Ev.congr (fun k => ?_) (ih (i + 1) s r (by omega) hr)
        rw [wsucc _ (by omega)]
      | some e =>
        obtain ⟨he, h0, h1, _⟩ := mem_fits hf
        have hl := el_leads e he
        have hk := right_known hr
        have hm := el_may he (r := r) (by rw [h1]; exact hk)
        rw [h1] at hm
        simp only [nextOf, if_true]
        have hmf := may_f s r e.f2 e.f3
        rw [hm] at hmf
        have hp1 := path_f 0 0 e.f2 e.f3
        rw [hl.1] at hp1
        have hrf := right_f e.f2 e.f3
        rw [hl.2.1] at hrf
        have hp2 := path_f e.f2 e.f3 0 0
        rw [hl.2.2] at hp2
        refine Ev.bind hmf ?_
        simp only [if_true]
        refine Ev.bind hp1 ?_
        simp only [if_true]
        refine Ev.bind hrf ?_
        simp only [if_true]
        refine Ev.bind hp2 ?_
        simp only [if_true]
        refine Ev.congr (fun k => ?_) (ih (i + 1) e.f2 e.f3 (by omega) hl.2.1)
        rw [wsucc _ (by omega)]
    by_cases hl : (i : Int) < (rs.length : Int)
    · refine Ev.step (fun k => ?_) (hj (rd rs (i : Int)))
      simp only [outpostlaw22_FsmWalks.l0]
      rw [if_pos (by omega), if_pos (by omega), if_pos (by omega), if_pos hl]
    · refine Ev.step (fun k => ?_) (hj 0)
      simp only [outpostlaw22_FsmWalks.l0]
      rw [if_pos (by omega), if_pos (by omega), if_pos (by omega), if_neg hl]
theorem FsmWalks : outpostlaw22_FsmWalks.Pure := by
  intro ev rs _ _ _ _ _ _
  refine Ev.rounds ?_
  unfold outpostlaw22_FsmWalks.f
  refine Ev.bind alive_f ?_
  simp only [if_true]
  have out : Ev (fun k => outpostlaw22_FsmWalks.j0 k ev rs true) true := by
    refine Ev.step (f := fun _ => some true) (fun k => ?_) (Ev.now _)
    simp only [outpostlaw22_FsmWalks.j0, if_true]
  by_cases h1 : (ev.length : Int) > 100
  · simp only [if_pos h1]
    exact out
  · simp only [if_neg h1]
    by_cases h2 : (rs.length : Int) > 100
    · simp only [decide_eq_true h2]
      exact out
    · simp only [decide_eq_false h2]
      refine Ev.step (fun k => ?_) (walks_l0 ev rs (by omega) ev.length 0 0 0 (by omega) (by decide))
      simp only [outpostlaw22_FsmWalks.j0]
      rfl
end Go.Proofs.Ytibjiigiaebepaa.Pure
