/- ShaKeeps. -/
import Derived.Test.YtlaojkheenobaaaDoorW1
import Derived.Test.YtlaojkheenobaaaDoorLCopy
namespace Go.Proofs.YtlaojkheenobaaaDoorD
open Go Go.Proofs.YtlaojkheenobaaaDoorS Go.Proofs
set_option linter.unusedVariables false
set_option linter.unusedSimpArgs false
section
variable {X : Type}
theorem put32 {W : List CV} (h : W.length = 32) : List.take 0 (List.replicate 32 (CV.int .u8 0)) ++ W ++ List.drop 32 (List.replicate 32 (CV.int .u8 0)) = W := by
  rw [List.take_zero, List.nil_append, List.drop_of_length_le (by simp), List.append_nil]
theorem all32 {W : List CV} (h : W.length = 32) : List.take 32 (List.drop 0 W) = W := by rw [List.drop_zero, take_all _ _ (by omega)]
abbrev KeepL (k : Nat) (K : Bool → Option X) := f7_L1 (fun X => @f9 X k) (fun X => @f23 X k) (fun X => @f13 X k) (fun X => @f14 X k) (fun X => @f16 X k) (fun X => @f15 X k) k K
theorem keeps_end {k : Nat} (K : Bool → Option X) (hk : 5000 < k) (hk2 : k < 1073741824) {b more : List Int} (hb : Byt b) (hm : Byt more) (hbl : b.length ≤ 2000) (hml : more.length ≤ 2000) {row : List CV} (hr : Hr b row) (rec) (W : List CV) :
    f7_T1 (fun X => @f9 X k) (fun X => @f23 X k) (fun X => @f13 X k) (fun X => @f14 X k) (fun X => @f16 X k) (fun X => @f15 X k) k K rec (by8 b, by8 more, b.length, (b.length : Int), (b.length : Int), W, row) = K true := by
  obtain ⟨row', g1, g2⟩ := write_eq (k := k) (m := b) (d := more) (by omega) (by omega) hb hm hr (by omega)
  have h1 : ([b] : List (List Int)).flatten = b := by simp
  have h2 : ([b, more] : List (List Int)).flatten = b ++ more := by simp
  have s1 := fun K => sums_eq (X := X) (k := k) (ps := [b]) (by omega) K (fun p hp => by rw [List.mem_singleton] at hp; rw [hp]; exact hb) (by show 1 < k; omega) (by rw [h1]; omega) hk2
  have s2 := fun K => sums_eq (X := X) (k := k) (ps := [b, more]) (by omega) K (fun p hp => by
    simp only [List.mem_cons, List.not_mem_nil, or_false] at hp
    rcases hp with rfl | rfl
    · exact hb
    · exact hm) (by show 2 < k; omega) (by rw [h2, List.length_append]; omega) hk2
  rw [h1] at s1
  rw [h2] at s2
  unfold f7_T1
  refine (bifF (decide_eq_false (by omega : ¬ (b.length : Int) < (b.length : Int)))).trans ?_
  refine (sum_eq (by omega) _ hb hr (by omega)).trans ?_
  have hl := dig_length b
  generalize dig b = D at hl s1 ⊢
  have a32 : (by8 D).length = 32 := by rw [by8_length]; exact hl
  refine (grdT (by rw [a32]; rfl)).trans ?_
  refine (grdT rfl).trans ?_
  refine (g2 _ _).trans ?_
  simp only [put32 a32, all32 a32]
  refine (grdT (decide_eq_true (by omega))).trans ?_
  refine (s1 _).trans ?_
  simp only [nums_by8 hl, Bool.and_self]
  refine (grdT rfl).trans ?_
  refine (bifT (by simp)).trans ?_
  refine (sum_eq (by omega) _ (hb.app hm) g1 (by rw [List.length_append]; omega)).trans ?_
  have hl2 := dig_length (b ++ more)
  generalize dig (b ++ more) = E at hl2 s2 ⊢
  refine (s2 _).trans ?_
  simp only [nums_by8 hl2, Bool.and_self]
  refine (grdT rfl).trans ?_
  simp
theorem keeps_law_eq {k : Nat} (K : Bool → Option X) (hk : 5000 < k) (hk2 : k < 1073741824) {b more : List Int} (hb : Byt b) (hm : Byt more) : f7 k K (by8 b) (by8 more) = K true := by
  unfold f7 f7_A f7_T
  refine (alive_eq _ (by omega) hk2).trans ?_
  refine (bifF rfl).trans ?_
  by_cases h1 : b.length ≤ 2000
  · refine (bifF (decide_eq_false (by rw [by8_length]; omega))).trans ?_
    by_cases h2 : more.length ≤ 2000
    · refine (bifF (decide_eq_false (by rw [by8_length]; omega))).trans ?_
      refine (copy_eq _ b (by omega) (by omega)).trans ?_
      refine (new_eq _).trans ?_
      obtain ⟨row, g1, g2⟩ := write_eq (k := k) (m := []) (d := b) (by omega) (by omega) .nil hb hr_new (by simp; omega)
      have et : List.take b.length (List.drop 0 (by8 b)) = by8 b := by rw [List.drop_zero, take_all _ _ (by rw [by8_length]; omega)]
      simp only [et]
      refine (g2 _ _).trans ?_
      have g1 : Hr b row := g1
      refine iterV_spec (fun i => (by8 b, by8 more, b.length, (b.length : Int), (i : Int), by8 (incU b i), row)) (fun _ => K true) b.length (fun i rec hi hr => ?_) (fun rec => ?_) k 0 (by omega) (by omega)
      · refine Eq.trans ?_ hr
        unfold f7_L1 f7_T1
        have e5 : 0 + i + 0 = i := by omega
        refine (bifT (decide_eq_true (by omega : (i : Int) < (b.length : Int)))).trans ?_
        simp only [toNat_cast, e5]
        refine (grdT (decide_eq_true (by omega))).trans ?_
        refine (grdT (decide_eq_true (by omega))).trans ?_
        refine (bAt (by8_at (by rw [incU_length]; exact hi)) _).trans ?_
        refine (grdT (isI_int _ _)).trans ?_
        refine (grdT (decide_eq_true (by omega))).trans ?_
        refine (grdT (decide_eq_true (by omega))).trans ?_
        refine (grdT (decide_eq_true (by rw [by8_length, incU_length]; exact hi))).trans ?_
        simp only [toI_int]
        rw [by8_set, wrap64_s (by omega)]
        rfl
      · exact keeps_end K hk hk2 hb hm h1 h2 g1 rec _
    · exact bifT (decide_eq_true (by rw [by8_length]; omega))
  · exact bifT (decide_eq_true (by rw [by8_length]; omega))
theorem law_keeps (x0 : List Int) (w0 : x0.length ≤ maxLen ∧ ∀ y ∈ x0, (Lit.int .u8 y).wf = true) (x1 : List Int) (w1 : x1.length ≤ maxLen ∧ ∀ y ∈ x1, (Lit.int .u8 y).wf = true) : ∃ k, ∀ K : Bool → Option Out, f7 k K (x0.map fun y => CV.int .u8 y) (x1.map fun y => CV.int .u8 y) = K true :=
  ⟨100000, fun K => keeps_law_eq K (by omega) (by omega) (wfByt w0.2) (wfByt w1.2)⟩
end
end Go.Proofs.YtlaojkheenobaaaDoorD
