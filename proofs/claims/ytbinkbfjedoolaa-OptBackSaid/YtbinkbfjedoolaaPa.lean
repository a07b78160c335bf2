/- The document's examples; options as bytes, and back: the laws. -/
import Derived.Test.YtbinkbfjedoolaaW2
namespace Go.Proofs.YtbinkbfjedoolaaD
open Go Go.Proofs.YtbinkbfjedoolaaS Go.Proofs
set_option linter.unusedVariables false
set_option linter.unusedSimpArgs false
section
variable {X : Type}
set_option maxRecDepth 100000 in
theorem alive_eq {k : Nat} (K : Bool → Option X) (hk : 1000 < k) : f8 k K = K true := by
  obtain ⟨k, rfl⟩ : ∃ j, k = j + 600 := ⟨k - 600, by omega⟩
  clear hk
  kernel_rfl
theorem fewO_len {l : List Op} (h : fewO l = true) : l.length ≤ 40 ∧ ∀ o ∈ l, o.2.length ≤ 400 := by
  simp only [fewO, Bool.and_eq_true, decide_eq_true_eq, List.all_eq_true] at h
  exact h
theorem writes_eq {k : Nat} (K : Bool → Option X) (hk : 1000000 < k) (l : List Op) : f3 k K (ops l) = K true := by
  unfold f3 f3_A f3_T
  refine (alive_eq _ (by omega)).trans ?_
  refine (bifF rfl).trans ?_
  refine (fewO_eq _ l (by omega)).trans ?_
  cases h : fewO l with
  | false => exact bifT rfl
  | true =>
    refine (bifF rfl).trans ?_
    have fl := fewO_len h
    refine (optW_eq _ l hk (by omega)).trans ?_
    refine (refW_eq _ l hk (by omega)).trans ?_
    dsimp only
    refine (bifT (beq_self_eq_true _)).trans ?_
    rw [d8]
    have := optW_len l
    refine (same_eq _ _ _ (by omega) (by omega)).trans ?_
    rw [decide_eq_true rfl]
theorem rd_len {b : List Int} (hb : Byt b) : ∀ (kk : Nat) (last : Int) (acc : List Op) (a : Nat), acc.length ≤ 24 → 0 ≤ last → (rd kk b last acc a).2.2.length ≤ 24
  | 0, _, _, _, _, _ => by simp [rd]
  | kk + 1, last, acc, a, hc, h0 => by
    unfold rd
    split
    · next hg =>
      split
      · simp
      · next num q n he =>
        have bd := rdO_bnd hb hg.1 h0 he
        exact rd_len hb kk num _ _ (by simp; omega) (by omega)
    · exact hc
theorem reads_eq {k : Nat} (K : Bool → Option X) (hk : 1000000 < k) (b : List Int) (hb : Byt b) : f4 k K (by8 b) = K true := by
  unfold f4 f4_A f4_T
  refine (alive_eq _ (by omega)).trans ?_
  refine (bifF rfl).trans ?_
  by_cases hl : b.length > 4000
  · exact bifT (decide_eq_true (by rw [by8_length]; omega))
  · refine (bifF (decide_eq_false (by rw [by8_length]; omega))).trans ?_
    refine (optR_eq _ b hb (by omega) hk).trans ?_
    unfold rdK
    refine (refR_eq _ b hb (by omega) hk).trans ?_
    unfold rdK
    dsimp only
    refine (bifT (beq_self_eq_true _)).trans ?_
    refine (bifT (beq_self_eq_true _)).trans ?_
    rw [dO]
    have hv := rd_vals hb b.length (Nat.le_refl _) k 0 [] 0 (fun o ho => by simp at ho)
    have hn := rd_len hb k 0 [] 0 (by simp) (by omega)
    refine (refSameO_eq _ _ _ hk (by omega) (fun o ho => by have := (hv o ho).1; omega)).trans ?_
    rw [decide_eq_true rfl]
/-- The bytes of any options. -/
theorem optW_eq' {k : Nat} (K : Nat × Int × List CV → Option X) (l : List Op) (hk : 1000000 < k) : f10 k K (ops l) = K ((optW l).2.length, (optW l).1, by8 (optW l).2) := by
  rcases Nat.lt_or_ge l.length 1000 with h | h
  · exact optW_eq K l hk h
  · have e : flt l = 3 := by unfold flt; rw [decide_eq_true (by omega)]; rfl
    have e2 : optW l = (3, []) := by unfold optW; rw [e]; rfl
    rw [e2]
    have e3 : f10 k K (ops l) = (bif decide (((ops l).length : Int) > 24) then K (0, 3, []) else f34b k (fun u1 => bif decide (u1 ≥ 0) then K (0, 1, []) else f34c k (fun u3 => bif decide (u3 ≥ 0) then K (0, 2, []) else f26 k (fun u3 => iterV (f10_L1 (fun X => @f25 X k) (fun X => @f26 X k) (fun X => @f27 X k) k K) k (0, 0, u3.1, (Nat.cast u3.1 : Int), 0, [], u3.2)) (ops l)) (ops l)) (ops l)) := by kernel_rfl
    rw [e3]
    exact bifT (decide_eq_true (by rw [ops_length]; omega))
theorem cat_eq (w m : List Int) : List.take ((w.length + (List.length (List.take 1 (List.drop 0 [CV.int .u8 255])))) + (List.length (by8 m))) (List.drop 0 ((List.take (w.length + (List.length (List.take 1 (List.drop 0 [CV.int .u8 255])))) ((List.take w.length (by8 w)) ++ (List.take 1 (List.drop 0 [CV.int .u8 255])))) ++ by8 m)) = by8 (w ++ 255 :: m) := by
  have e1 : List.take 1 (List.drop 0 [CV.int .u8 255]) = by8 [255] := rfl
  rw [e1, by8_length, by8_length, t8', List.drop_zero, ← by8_append, List.take_of_length_le (l := by8 (w ++ [255])) (by simp [by8_length]), ← by8_append, List.take_of_length_le (by simp [by8_length]; omega), List.append_assoc]
  rfl
theorem optW_cases (l : List Op) : (optW l).1 ≠ 0 ∧ (optW l).2 = [] ∨ flt l = 0 ∧ optW l = (0, enc 0 (isort l)) := by
  unfold optW
  cases h : flt l != 0 with
  | true => exact .inl ⟨by simpa using h, rfl⟩
  | false => exact .inr ⟨by simpa using h, rfl⟩
theorem flt_isort {l : List Op} (h : flt l = 0) : flt (isort l) = 0 := by
  have h1 := flt_ok h
  unfold flt
  rw [isort_len, decide_eq_false (by omega)]
  have e1 : (isort l).any pF = false := by
    rw [List.any_eq_false]
    intro o ho
    have := h1.2 o (isort_mem.1 ho)
    unfold pF
    simp; omega
  have e2 : (isort l).any qF = false := by
    rw [List.any_eq_false]
    intro o ho
    have := h1.2 o (isort_mem.1 ho)
    unfold qF
    simp; omega
  rw [e1, e2]; rfl
theorem back_eq {k : Nat} (K : Bool → Option X) (hk : 1000000 < k) (l : List Op) (hl : BytO l) (m : List Int) (hm : Byt m) : f5 k K (ops l) (by8 m) = K true := by
  unfold f5 f5_A f5_T
  refine (alive_eq _ (by omega)).trans ?_
  refine (bifF rfl).trans ?_
  refine (optW_eq' _ l hk).trans ?_
  dsimp only
  rcases optW_cases l with ⟨h, h2⟩ | ⟨h0, h⟩
  · refine (bifT (by simpa using h)).trans ?_
    rw [h2]
    exact bifT rfl
  · have h1 := flt_ok h0
    have ok := okk_isort h0
    have hw := optW_len l
    rw [h] at hw ⊢
    dsimp only at hw ⊢
    refine (bifF rfl).trans ?_
    by_cases hml : m.length > 1000
    · refine (bifT (decide_eq_true (by rw [by8_length]; omega))).trans ?_
      cases ((enc 0 (isort l)).length : Int) == 0 <;> rfl
    · refine (bifF (decide_eq_false (by rw [by8_length]; omega))).trans ?_
      rw [d8]
      have hbw : Byt (enc 0 (isort l)) := enc_byt _ _ ok (isort_byt hl)
      have r1 := rd_enc k (isort l) [] 0 [] [] (by rw [isort_len]; omega) ok (by rw [isort_len]; simp; omega) (.inl rfl)
      have r2 := rd_enc k (isort l) [] 0 [] (255 :: m) (by rw [isort_len]; omega) ok (by rw [isort_len]; simp; omega) (.inr ⟨_, rfl⟩)
      simp only [List.nil_append, List.append_nil, List.length_nil] at r1 r2
      refine (optR_eq _ _ hbw (by omega) hk).trans ?_
      unfold rdK
      rw [r1]
      dsimp only
      refine (copy_eq _ _ (by omega) (by omega)).trans ?_
      dsimp only
      refine (grdT (decide_eq_true (by simp; omega))).trans ?_
      refine (grdT (decide_eq_true (by rw [by8_length]; simp; omega))).trans ?_
      rw [cat_eq]
      refine (optR_eq _ _ (hbw.app (Byt.cons (by omega) hm)) (by simp; omega) hk).trans ?_
      unfold rdK
      rw [r2]
      dsimp only
      refine (bifF rfl).trans ?_
      refine (bifF rfl).trans ?_
      refine (bifF (by simp)).trans ?_
      refine (bifF (by simp)).trans ?_
      refine (sorted_eq _ l (by omega) (fun o ho => by have := h1.2 o ho; omega) (by omega)).trans ?_
      dsimp only
      have hlen : l.length = (isort l).length := (isort_len l).symm
      have hvs : ∀ o ∈ isort l, o.2.length ≤ 100000 := fun o ho => by have := h1.2 o (isort_mem.1 ho); omega
      rw [hlen, dO]
      refine (refSameO_eq _ _ _ hk (by rw [isort_len]; omega) hvs).trans ?_
      rw [decide_eq_true rfl]
      refine (bifF rfl).trans ?_
      refine (refSameO_eq _ _ _ hk (by rw [isort_len]; omega) hvs).trans ?_
      rw [decide_eq_true rfl]
      refine (bifF rfl).trans ?_
      refine (optW_eq' _ _ hk).trans ?_
      have e : optW (isort l) = (0, enc 0 (isort l)) := by
        rcases optW_cases (isort l) with ⟨q, q2⟩ | ⟨q, q2⟩
        · unfold optW at q
          rw [flt_isort h0] at q
          exact absurd rfl q
        · rw [q2, isort_of (isort_srt l)]
      rw [e]
      dsimp only
      refine (bifT rfl).trans ?_
      rw [d8]
      refine (same_eq _ _ _ (by omega) (by omega)).trans ?_
      rw [decide_eq_true rfl]
end
end Go.Proofs.YtbinkbfjedoolaaD
