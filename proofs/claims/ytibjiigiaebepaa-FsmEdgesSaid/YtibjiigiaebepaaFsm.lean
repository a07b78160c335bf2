/- The edges of the diagram, what is next of a state, what can be come to: the printed functions, evaluated. -/
import Derived.Test.YtibjiigiaebepaaPAllx
import Derived.KernelRfl
namespace Go.Proofs.Ytibjiigiaebepaa.Fsm
open Go.RowKit Go.Proofs.Ytibjiigiaebepaa.PAll Go.Proofs.YtibjiigiaebepaaW.PrintWords Go.Proofs.YtibjiigiaebepaaW.PrintLast Go.Proofs.YtibjiigiaebepaaW.PrintMore
set_option linter.unusedVariables false
set_option linter.unusedSimpArgs false
theorem w64 {x : Int} (h1 : -9223372036854775808 ≤ x) (h2 : x ≤ 9223372036854775807) : wrap64 x = x := by unfold wrap64; omega
theorem wsucc (n : Nat) (h : n < 9223372036854775807) : wrap64 ((n : Int) + 1) = ((n + 1 : Nat) : Int) := by rw [w64 (by omega) (by omega)]; omega
theorem wf64 {x : Int} (h : (Lit.int .i64 x).wf = true) : -9223372036854775808 ≤ x ∧ x ≤ 9223372036854775807 := by
  simp [Lit.wf, IntKind.min, IntKind.max, IntKind.signed, IntKind.bits] at h
  omega
/-- The edges, in order. -/
def EL : List S24 := [⟨1, 0, 1, 0⟩, ⟨2, 1, 2, 0⟩, ⟨3, 1, 0, 2⟩, ⟨3, 1, 0, 3⟩, ⟨3, 1, 0, 4⟩, ⟨3, 1, 0, 5⟩, ⟨3, 1, 0, 6⟩, ⟨3, 1, 0, 7⟩, ⟨3, 1, 0, 8⟩, ⟨3, 1, 0, 9⟩,
  ⟨4, 0, 0, 0⟩, ⟨4, 1, 0, 0⟩, ⟨4, 2, 0, 0⟩, ⟨5, 2, 3, 0⟩, ⟨6, 3, 0, 1⟩, ⟨7, 3, 0, 8⟩, ⟨8, 2, 0, 5⟩]
theorem edges_f : Ev (fun k => fsm_Edges.f k) EL := Ev.of (fun k => fsm_Edges.mono k) (k := 40) (by kernel_rfl)
theorem el_len : EL.length = 17 := rfl
theorem rd_el (i : Nat) (h : i < EL.length) : rd_T24 EL (i : Int) = EL[i] := by simp [rd_T24, List.getD_eq_getElem?_getD, List.getElem?_eq_getElem h]
/-- Is this the edge of an event from a state? -/
def fits (s e r : Int) (x : S24) : Bool := decide (x.f0 = e) && (decide (x.f1 = s) && (decide (e ≠ 3) || decide (x.f3 = r)))
def nextOf : Option S24 → Int × Int × Int × Int × Bool
  | some x => (x.f0, x.f1, x.f2, x.f3, true)
  | none => (0, 0, 0, 0, false)
theorem next_l0 (s e r : Int) (d : Nat) : ∀ i : Nat, i + d = 17 → Ev (fun k => fsm_Next.l0 k s e r EL (EL.length : Int) (i : Int)) (nextOf ((EL.drop i).find? (fits s e r))) := by
  induction d with
  | zero =>
    intro i hi
    have : i = 17 := by omega
    subst this
    refine Ev.step (f := fun _ => some (0, 0, 0, 0, false)) (fun k => ?_) (Ev.now _)
    simp only [fsm_Next.l0]
    rw [if_neg (by rw [el_len]; omega)]
  | succ d ih =>
    intro i hi
    have hl : i < EL.length := by rw [el_len]; omega
    have ih := ih (i + 1) (by omega)
    rw [List.drop_eq_getElem_cons hl, List.find?_cons]
    cases hf : fits s e r EL[i] with
    | true =>
      simp only [fits, Bool.and_eq_true, Bool.or_eq_true, decide_eq_true_eq] at hf
      obtain ⟨h0, h1, h2⟩ := hf
      refine Ev.step (f := fun _ => some (nextOf (some EL[i]))) (fun k => ?_) (Ev.now _)
      simp only [fsm_Next.l0, rd_el i hl]
      rw [if_pos (by omega), if_pos (by omega), if_pos (by omega), if_pos h0, if_pos h1]
      rcases h2 with h2 | h2
      · rw [if_neg h2]; rfl
      · rw [if_pos h2]; split <;> rfl
    | false =>
      refine Ev.step (fun k => ?_) ih
      simp only [fsm_Next.l0, rd_el i hl]
      rw [if_pos (by omega), if_pos (by omega), if_pos (by omega), wsucc _ (by rw [el_len] at hl; omega)]
      simp only [fits, Bool.and_eq_false_iff, Bool.or_eq_false_iff, decide_eq_false_iff_not, Decidable.not_not] at hf
      rcases hf with hf | hf | ⟨hf, hg⟩
      · rw [if_neg hf]
      · split <;> rfl
      · split
        · split <;> rfl
        · rfl
theorem next_f (s e r : Int) : Ev (fun k => fsm_Next.f k s e r) (nextOf (EL.find? (fits s e r))) := by
  unfold fsm_Next.f
  refine Ev.bind edges_f ?_
  exact next_l0 s e r 17 0 rfl
theorem mem_fits {s e r : Int} {x : S24} (h : EL.find? (fits s e r) = some x) : x ∈ EL ∧ x.f0 = e ∧ x.f1 = s ∧ (e ≠ 3 ∨ x.f3 = r) := by
  have h1 := List.mem_of_find?_eq_some h
  have h2 := List.find?_some h
  simp only [fits, Bool.and_eq_true, Bool.or_eq_true, decide_eq_true_eq] at h2
  exact ⟨h1, h2.1, h2.2.1, h2.2.2⟩
theorem no_fits {s e r : Int} (h : EL.find? (fits s e r) = none) (x : S24) (hx : x ∈ EL) : ¬ (x.f0 = e ∧ x.f1 = s ∧ (e ≠ 3 ∨ x.f3 = r)) := by
  have := List.find?_eq_none.1 h x hx
  simpa only [fits, Bool.and_eq_true, Bool.or_eq_true, decide_eq_true_eq] using this
/-- A statement on the edges, by looking at each. -/
theorem el_all (p : S24 → Prop) [DecidablePred p] (h : EL.all (fun x => decide (p x)) = true) (x : S24) (hx : x ∈ EL) : p x := by
  have := List.all_eq_true.1 h x hx
  simpa using this
theorem known_f (a b : Int) : fsm_known.f a b = some (decide (0 ≤ a ∧ a ≤ 3 ∧ 0 ≤ b ∧ b ≤ 9)) := by
  unfold fsm_known.f
  split
  · split
    · split
      · congr 1; simp_all
      · rw [decide_eq_false (by omega)]
    · rw [decide_eq_false (by omega)]
  · rw [decide_eq_false (by omega)]
/-- A pair followed by another at once. -/
def may (s r t q : Int) : Bool := decide (0 ≤ s ∧ s ≤ 3 ∧ 0 ≤ r ∧ r ≤ 9) && (decide (0 ≤ t ∧ t ≤ 3 ∧ 0 ≤ q ∧ q ≤ 9) && (decide (s = t ∧ r = q) || EL.any (fun e => decide (e.f1 = s) && decide (e.f2 = t) && decide (e.f3 = q))))
theorem may_f (s r t q : Int) : Ev (fun k => fsm_May.f k s r t q) (may s r t q) := by
  unfold fsm_May.f may
  rw [known_f, known_f]
  cases h1 : decide (0 ≤ s ∧ s ≤ 3 ∧ 0 ≤ r ∧ r ≤ 9) with
  | false => exact Ev.now _
  | true =>
    cases h2 : decide (0 ≤ t ∧ t ≤ 3 ∧ 0 ≤ q ∧ q ≤ 9) with
    | false => exact Ev.now _
    | true =>
      by_cases h3 : s = t ∧ r = q
      · refine Ev.congr (f := fun _ => some true) (fun k => ?_) ?_
        · show (if s = t ∧ r = q then _ else _) = _
          rw [if_pos h3]
        · rw [decide_eq_true h3]
          exact Ev.now _
      · refine Ev.congr (f := fun k => (fsm_Edges.f k).bind fun t3 => some (t3.any fun e => decide (e.f1 = s) && decide (e.f2 = t) && decide (e.f3 = q))) (fun k => ?_) ?_
        · show (if s = t ∧ r = q then _ else _) = _
          rw [if_neg h3]
        · rw [decide_eq_false h3]
          exact Ev.bind edges_f (Ev.now _)
/-- What the first pair leads to: each can be. -/
def right (s r : Int) : Bool := decide (s = 0 ∧ 0 ≤ r ∧ r ≤ 9) || decide (1 ≤ s ∧ s ≤ 3 ∧ r = 0)
end Go.Proofs.Ytibjiigiaebepaa.Fsm
