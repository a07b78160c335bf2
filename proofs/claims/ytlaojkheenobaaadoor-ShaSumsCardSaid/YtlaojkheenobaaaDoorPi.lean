/- ShaSums. -/
import Derived.Test.YtlaojkheenobaaaDoorW2
namespace Go.Proofs.YtlaojkheenobaaaDoorD
open Go Go.Proofs.YtlaojkheenobaaaDoorS Go.Proofs
set_option linter.unusedVariables false
set_option linter.unusedSimpArgs false
section
variable {X : Type}
theorem put32 {W : List CV} (h : W.length = 32) : List.take 0 (List.replicate 32 (CV.int .u8 0)) ++ W ++ List.drop 32 (List.replicate 32 (CV.int .u8 0)) = W := by
  rw [List.take_zero, List.nil_append, List.drop_of_length_le (by simp), List.append_nil]
theorem all32 {W : List CV} (h : W.length = 32) : List.take 32 (List.drop 0 W) = W := by rw [List.drop_zero, take_all _ _ (by omega)]
theorem dig8_length (m : List Int) : (by8 (dig m)).length = 32 := by rw [by8_length, dig_length]
theorem sums_loop {k : Nat} (K : Bool → Option X) (hk : 3000 < k) (hk2 : k < 1073741824) {ps : List (List Int)} (hps : ∀ p ∈ ps, Byt p) (h8 : ps.length ≤ 8) (hf : ps.flatten.length ≤ 2000) {D : List Int} (hDl : D.length = 32) (hD : dig ps.flatten = D) :
    ∀ (n i : Nat) (row : List CV) (j : Nat), ps.length - i ≤ n → i ≤ ps.length → n < j → Hr (ps.take i).flatten row →
      iterV (f3_L1 (fun X => @f9 X k) (fun X => @f10 X k) (fun X => @f12 X k) (fun X => @f11 X k) (fun X => @f13 X k) (fun X => @f14 X k) (fun X => @f15 X k) (fun X => @f16 X k) (fun X => @f17 X k) k K) j
        (rows8 ps, ((ps.take i).flatten.length : Int), rows8 ps, (ps.length : Int), (i : Int), by8 D, row) = K true := fun n => by
  have hs : ∀ (j : Nat) v, iterV (f3_L1 (fun X => @f9 X k) (fun X => @f10 X k) (fun X => @f12 X k) (fun X => @f11 X k) (fun X => @f13 X k) (fun X => @f14 X k) (fun X => @f15 X k) (fun X => @f16 X k) (fun X => @f17 X k) k K) (j + 1) v
      = f3_T1 (fun X => @f9 X k) (fun X => @f10 X k) (fun X => @f12 X k) (fun X => @f11 X k) (fun X => @f13 X k) (fun X => @f14 X k) (fun X => @f15 X k) (fun X => @f16 X k) (fun X => @f17 X k) k K (iterV (f3_L1 (fun X => @f9 X k) (fun X => @f10 X k) (fun X => @f12 X k) (fun X => @f11 X k) (fun X => @f13 X k) (fun X => @f14 X k) (fun X => @f15 X k) (fun X => @f16 X k) (fun X => @f17 X k) k K) j) v := fun _ _ => rfl
  induction n with
  | zero =>
    intro i row j h1 h2 h3 h4
    obtain ⟨j, rfl⟩ : ∃ q, j = q + 1 := ⟨j - 1, by omega⟩
    have hi : i = ps.length := by omega
    subst hi
    rw [List.take_length] at h4
    refine (hs _ _).trans ?_
    unfold f3_T1
    refine (bifF (decide_eq_false (by omega : ¬ (ps.length : Int) < (ps.length : Int)))).trans ?_
    have h32 : 32 ≤ (by8 D).length := by rw [by8_length]; omega
    have a32 : (by8 D).length = 32 := by rw [by8_length]; omega
    refine (sums_eq (ps := ps) (by omega) _ hps (by omega) (by omega) hk2).trans ?_
    rw [hD]
    refine (grdT (decide_eq_true h32)).trans ?_
    simp only [all32 a32, nums_by8 hDl, Bool.and_self]
    refine (grdT rfl).trans ?_
    refine (bifT (by simp)).trans ?_
    refine (sum_eq (by omega) _ (byt_flat hps) h4 (by omega)).trans ?_
    rw [hD]
    refine (grdT (decide_eq_true h32)).trans ?_
    simp only [nums_by8 hDl, Bool.and_self]
    refine (grdT rfl).trans ?_
    refine (bifT (by simp)).trans ?_
    refine (len_eq _ h4).trans ?_
    simp
  | succ n ih =>
    intro i row j h1 h2 h3 h4
    rcases Nat.lt_or_ge i ps.length with hi | hi
    · obtain ⟨j, rfl⟩ : ∃ q, j = q + 1 := ⟨j - 1, by omega⟩
      have hp := part_le hi
      obtain ⟨row', g1, g2⟩ := write_eq (k := k) (by omega) (by omega : (ps.getD i []).length < k) (byt_flat_take hps i) (getD_byts hps i) h4 (by omega)
      rw [← flat_succ hi] at g1
      have ew : IntKind.wrap .i64 (((ps.take i).flatten.length : Int) + ((ps.getD i []).length : Int)) = ((ps.take (i + 1)).flatten.length : Int) := by
        rw [flat_succ hi, List.length_append, wrap64 (by omega) (by omega)]; omega
      refine (hs _ _).trans ?_
      unfold f3_T1
      refine (bifT (decide_eq_true (by omega : (i : Int) < (ps.length : Int)))).trans ?_
      refine (grdT (decide_eq_true (by omega : (0 : Int) ≤ (i : Int)))).trans ?_
      refine (bAt (rows8_at hi) _).trans ?_
      refine (grdT (isL_slc _ _)).trans ?_
      refine (g2 _ _).trans ?_
      simp only [toL_slc, by8_length]
      rw [wrap64_s (by omega), ew]
      exact ih (i + 1) row' j (by omega) (by omega) (by omega) g1
    · exact ih i row j (by omega) h2 (by omega) h4
theorem sums_law_eq {k : Nat} (K : Bool → Option X) (hk : 3000 < k) (hk2 : k < 1073741824) {ps : List (List Int)} (hps : ∀ p ∈ ps, Byt p) : f3 k K (rows8 ps) = K true := by
  unfold f3 f3_A f3_T
  refine (alive_eq _ (by omega) hk2).trans ?_
  refine (bifF rfl).trans ?_
  obtain ⟨b, hb, hfew⟩ := few_eq (k := k) (ps := ps) (by omega)
  refine (hfew _ _).trans ?_
  cases b with
  | false => rfl
  | true =>
    obtain ⟨h8, hf⟩ := hb rfl
    refine (bifF rfl).trans ?_
    refine (join_eq _ ps (by omega) (by omega) (by omega)).trans ?_
    have et : List.take ps.flatten.length (List.drop 0 (by8 ps.flatten)) = by8 ps.flatten := by rw [List.drop_zero, take_all _ _ (by rw [by8_length]; omega)]
    simp only [et]
    refine (ref_eq _ (by omega) (byt_flat hps) (by omega) (by omega)).trans ?_
    refine (grdT (by rw [dig8_length]; rfl)).trans ?_
    refine (grdT rfl).trans ?_
    refine (new_eq _).trans ?_
    rw [put32 (dig8_length _), rows8_length]
    exact sums_loop K hk hk2 hps h8 hf (dig_length _) rfl ps.length 0 _ k (by omega) (by omega) (by omega) (by simpa using hr_new)
theorem rows8_eq (x : List (List Int)) : (x.map fun p => CV.slc none (p.map fun y => CV.int .u8 y)) = rows8 x := rfl
theorem law_sums (x0 : List (List Int)) (w0 : x0.length ≤ maxLen ∧ ∀ y ∈ x0, y.length ≤ maxLen ∧ ∀ z ∈ y, (Lit.int .u8 z).wf = true) : ∃ k, ∀ K : Bool → Option Out, f3 k K (x0.map fun p => CV.slc none (p.map fun y => CV.int .u8 y)) = K true := by
  refine ⟨100000, fun K => ?_⟩
  rw [rows8_eq]
  exact sums_law_eq K (by omega) (by omega) (fun p hp => wfByt (w0.2 p hp).2)
end
end Go.Proofs.YtlaojkheenobaaaDoorD
