/- What the printed helpers of outpostref01 answer: Copy the bytes, Same whether they are equal. -/
import Derived.Test.YtemhkbifgckdnaaBase
namespace Go.Proofs.Ytemhkbifgckdnaa.Fn
open Go.RowKit Go.Proofs.Ytemhkbifgckdnaa.PAll Go.Proofs.YtemhkbifgckdnaaW.PrintWords Go.Proofs.YtemhkbifgckdnaaW.PrintLast Go.Proofs.YtemhkbifgckdnaaW.PrintMore
theorem copy_l0 (l : List Int) (hn : l.length ≤ 140737488355327) (d : Nat) : ∀ (j : Nat), j + d = l.length →
    Ev (fun k => outpostref01_Copy.l0 k l (l.take j) (j : Int)) l := by
  induction d with
  | zero =>
    intro j hj
    refine Ev.step (f := fun _ => some l) (fun k => ?_) (Ev.now _)
    simp only [outpostref01_Copy.l0]
    rw [if_neg (by omega), List.take_of_length_le (by omega)]
  | succ d ih =>
    intro j hj
    refine Ev.step (fun k => ?_) (ih (j + 1) (by omega))
    simp only [outpostref01_Copy.l0]
    rw [if_pos (by omega), if_pos (by omega), if_pos (by simp; omega), w64 (by omega) (by omega), rd_getElem (by omega), take_snoc (by omega)]
    rfl
theorem copy_f (l : List Int) (hn : l.length ≤ 140737488355327) : Ev (fun k => outpostref01_Copy.f k l) l := copy_l0 l hn l.length 0 (by omega)
theorem same_l0 (a b : List Int) (hab : a.length = b.length) (hn : a.length ≤ 140737488355328) (d : Nat) : ∀ (j : Nat), j + d = a.length →
    Ev (fun k => outpostref01_Same.l0 k a b (j : Int)) (decide (a.drop j = b.drop j)) := by
  induction d with
  | zero =>
    intro j hj
    have h1 : a.drop j = [] := List.drop_eq_nil_of_le (by omega)
    have h2 : b.drop j = [] := List.drop_eq_nil_of_le (by omega)
    refine Ev.step (f := fun _ => some (decide (a.drop j = b.drop j))) (fun k => ?_) (Ev.now _)
    simp only [outpostref01_Same.l0]
    rw [if_neg (by omega), h1, h2]
    rfl
  | succ d ih =>
    intro j hj
    have ih' := ih (j + 1) (by omega)
    have e1 := drop_cons (l := a) (j := j) (by omega)
    have e2 := drop_cons (l := b) (j := j) (by omega)
    have r1 := rd_getElem (l := a) (j := j) (by omega)
    have r2 := rd_getElem (l := b) (j := j) (by omega)
    by_cases h : rd a (j : Int) = rd b (j : Int)
    · have e : decide (a.drop j = b.drop j) = decide (a.drop (j + 1) = b.drop (j + 1)) := by
        rw [e1, e2, ← r1, ← r2, h]; simp
      rw [e]
      refine Ev.step (fun k => ?_) ih'
      simp only [outpostref01_Same.l0]
      rw [if_pos (by omega), if_pos (by omega), if_pos (by omega), if_pos h, w64 (by omega) (by omega)]
      rfl
    · have e : decide (a.drop j = b.drop j) = false := by
        rw [e1, e2, ← r1, ← r2]; simp [h]
      rw [e]
      refine Ev.step (f := fun _ => some false) (fun k => ?_) (Ev.now _)
      simp only [outpostref01_Same.l0]
      rw [if_pos (by omega), if_pos (by omega), if_pos (by omega), if_neg h]
theorem same_f (a b : List Int) (hn : a.length ≤ 140737488355328) : Ev (fun k => outpostref01_Same.f k a b) (decide (a = b)) := by
  by_cases h : a.length = b.length
  · refine Ev.congr (fun k => ?_) (same_l0 a b h hn a.length 0 (by omega))
    unfold outpostref01_Same.f
    rw [if_pos (by omega)]
    rfl
  · have e : decide (a = b) = false := by
      simp only [decide_eq_false_iff_not]
      rintro rfl
      exact h rfl
    rw [e]
    refine Ev.congr (f := fun _ => some false) (fun k => ?_) (Ev.now _)
    unfold outpostref01_Same.f
    rw [if_neg (by omega)]
end Go.Proofs.Ytemhkbifgckdnaa.Fn
