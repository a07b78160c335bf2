/- Proved: of one event from one state there is at most one edge, and what it leads to is told as what may follow; no condition. -/
import Derived.Test.YtibjiigiaebepaaFsmRef
namespace Go.Proofs.Ytibjiigiaebepaa.Pure
open Go.RowKit Go.Proofs.Ytibjiigiaebepaa.PAll Go.Proofs.YtibjiigiaebepaaW.PrintWords Go.Proofs.YtibjiigiaebepaaW.PrintLast Go.Proofs.YtibjiigiaebepaaW.PrintMore Go.Proofs.Ytibjiigiaebepaa.Fsm
theorem el_apart : EL.Pairwise (fun x y => ¬ (x.f0 = y.f0 ∧ x.f1 = y.f1 ∧ (x.f0 ≠ 3 ∨ x.f3 = y.f3))) := by decide
theorem few (s e r : Int) : (EL.filter (fits s e r)).length ≤ 1 := by
  have h := el_apart.filter (fits s e r)
  have hm : ∀ x ∈ EL.filter (fits s e r), x.f0 = e ∧ x.f1 = s ∧ (e ≠ 3 ∨ x.f3 = r) := by
    intro x hx
    have := (List.mem_filter.1 hx).2
    simpa only [fits, Bool.and_eq_true, Bool.or_eq_true, decide_eq_true_eq] using this
  match hL : EL.filter (fits s e r) with
  | [] => simp
  | [_] => simp
  | x :: y :: L =>
    rw [hL] at h hm
    have hx := hm x (by simp)
    have hy := hm y (by simp)
    have := (List.pairwise_cons.1 h).1 y (by simp)
    exact absurd (by omega) this
theorem the_one {s e r : Int} {x : S24} (hx : x ∈ EL) (hf : fits s e r x = true) : EL.find? (fits s e r) = some x := by
  have h1 : x ∈ EL.filter (fits s e r) := List.mem_filter.2 ⟨hx, hf⟩
  cases hz : EL.find? (fits s e r) with
  | none => exact absurd hf (by have := List.find?_eq_none.1 hz x hx; exact this)
  | some z =>
    have h2 : z ∈ EL.filter (fits s e r) := List.mem_filter.2 ⟨List.mem_of_find?_eq_some hz, List.find?_some hz⟩
    have hl := few s e r
    match hL : EL.filter (fits s e r) with
    | [] => rw [hL] at h1; simp at h1
    | [w] =>
      rw [hL] at h1 h2
      simp only [List.mem_singleton] at h1 h2
      rw [h1, h2]
    | _ :: _ :: _ => rw [hL] at hl; simp at hl
theorem el_may0 {x : S24} (h : x ∈ EL) : may x.f1 0 x.f2 x.f3 = true := by
  have he := el_event x h
  unfold may
  rw [decide_eq_true (by omega), decide_eq_true (by omega)]
  simp only [Bool.true_and, Bool.or_eq_true]
  right
  rw [List.any_eq_true]
  exact ⟨x, h, by simp⟩
theorem one_l0 (s e r : Int) (d : Nat) : ∀ (i n : Nat), i + d = 17 → n + ((EL.drop i).filter (fits s e r)).length = (EL.filter (fits s e r)).length →
    Ev (fun k => outpostlaw22_FsmOne.l0 k s e r (n : Int) EL (EL.length : Int) (i : Int)) true := by
  have hfew := few s e r
  induction d with
  | zero =>
    intro i n hi hn
    have : i = 17 := by omega
    subst this
    refine Ev.step (fun k => by simp only [outpostlaw22_FsmOne.l0]; rw [if_neg (by rw [el_len]; omega)]) ?_
    refine Ev.bind (next_f s e r) ?_
    have e0 : ((EL.drop 17).filter (fits s e r)).length = 0 := rfl
    rw [e0] at hn
    refine Ev.congr (f := fun _ => some true) (fun k => ?_) (Ev.now _)
    rw [if_pos (by omega)]
    congr 1
    cases hz : EL.find? (fits s e r) with
    | none =>
      have : EL.filter (fits s e r) = [] := by
        rw [List.filter_eq_nil_iff]
        exact List.find?_eq_none.1 hz
      rw [this] at hn
      have : n = 0 := by simpa using hn
      subst this
      rfl
    | some z =>
      have hm : z ∈ EL.filter (fits s e r) := List.mem_filter.2 ⟨List.mem_of_find?_eq_some hz, List.find?_some hz⟩
      have := List.length_pos_of_mem hm
      have : n = 1 := by omega
      subst this
      rfl
  | succ d ih =>
    intro i n hi hn
    have hl : i < EL.length := by rw [el_len]; omega
    rw [List.drop_eq_getElem_cons hl] at hn
    refine Ev.step (f := fun k => outpostlaw22_FsmOne.j1 k s e r (n : Int) EL (EL.length : Int) (i : Int) (fits s e r EL[i]) EL[i].f0 EL[i].f1 EL[i].f2 EL[i].f3) (fun k => ?_) ?_
    · simp only [outpostlaw22_FsmOne.l0, rd_el i hl]
      rw [if_pos (by omega), if_pos (by omega), if_pos (by omega)]
      by_cases h1 : EL[i].f1 = s
      · by_cases h0 : EL[i].f0 = e
        · by_cases h3 : e = 3
          · rw [if_pos h1, if_pos h0, if_pos h3]
            have : fits s e r EL[i] = (EL[i].f3 == r) := by
              rw [fits, decide_eq_true h0, decide_eq_true h1, decide_eq_false (by simpa using h3)]
              simp
              rfl
            rw [this]
          · rw [if_pos h1, if_pos h0, if_neg h3]
            have : fits s e r EL[i] = true := by
              rw [fits, decide_eq_true h0, decide_eq_true h1, decide_eq_true (by simpa using h3)]
              simp
            rw [this]
        · rw [if_pos h1, if_neg h0]
          have : fits s e r EL[i] = false := by rw [fits, decide_eq_false h0]; simp
          rw [this]
      · rw [if_neg h1]
        have : fits s e r EL[i] = false := by rw [fits, decide_eq_false h1]; simp
        rw [this]
    · cases hf : fits s e r EL[i] with
      | false =>
        rw [List.filter_cons_of_neg (by simp [hf])] at hn
        refine Ev.step (fun k => ?_) (ih (i + 1) n (by omega) hn)
        simp only [outpostlaw22_FsmOne.j1]
        rw [if_neg (show ¬ (false = true) by decide), wsucc _ (by rw [el_len] at hl; omega)]
      | true =>
        have hone := the_one (List.getElem_mem hl) hf
        rw [List.filter_cons_of_pos hf, List.length_cons] at hn
        have hnx := next_f s e r
        rw [hone] at hnx
        have hs : EL[i].f1 = s := by
          simp only [fits, Bool.and_eq_true, decide_eq_true_eq] at hf
          exact hf.2.1
        have hm := el_may0 (List.getElem_mem hl)
        have hmf := may_f s 0 EL[i].f2 EL[i].f3
        rw [← hs, hm, hs] at hmf
        refine Ev.step (fun k => by simp only [outpostlaw22_FsmOne.j1]; rw [if_pos trivial]) ?_
        refine Ev.bind hnx ?_
        simp only [nextOf, if_true, beq_self_eq_true, Bool.not_true, Bool.or_false]
        refine Ev.congr (fun k => by rw [if_neg (show ¬ (false = true) by decide)]) ?_
        refine Ev.bind hmf ?_
        simp only [if_true]
        refine Ev.congr (fun k => ?_) (ih (i + 1) (n + 1) (by omega) (by omega))
        rw [wsucc _ (by rw [el_len] at hl; omega), wsucc _ (by omega)]
theorem FsmOne : outpostlaw22_FsmOne.Pure := by
  intro a0 a1 a2 _ _ _
  refine Ev.rounds ?_
  unfold outpostlaw22_FsmOne.f
  refine Ev.bind alive_f ?_
  simp only [if_true]
  refine Ev.bind edges_f ?_
  exact one_l0 a0 a1 a2 17 0 0 rfl (by simp)
end Go.Proofs.Ytibjiigiaebepaa.Pure
