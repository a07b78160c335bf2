/- ShaLong. -/
import Derived.Test.YtlaojkheenobaaaDoorW2
namespace Go.Proofs.YtlaojkheenobaaaDoorD
open Go Go.Proofs.YtlaojkheenobaaaDoorS Go.Proofs
set_option linter.unusedVariables false
set_option linter.unusedSimpArgs false
section
variable {X : Type}
theorem bne_f {a b : Int} (h : a = b) : (a != b) = false := by rw [h]; simp
theorem not_same (D : List Int) : (!(D == D)) = false := by simp
abbrev LongL (k : Nat) (K : Bool → Option X) := f8_L1 (fun X => @f9 X k) (fun X => @f13 X k) (fun X => @f14 X k) (fun X => @f16 X k) (fun X => @f11 X k) (fun X => @f17 X k) k K
abbrev LongT (k : Nat) (K : Bool → Option X) := f8_T1 (fun X => @f9 X k) (fun X => @f13 X k) (fun X => @f14 X k) (fun X => @f16 X k) (fun X => @f11 X k) (fun X => @f17 X k) k K
theorem long_go {k : Nat} (K : Bool → Option X) (hk : 3000 < k) (hk2 : k < 1073741824) {b : List Int} (hb : Byt b) (hbl : b.length ≤ 100) (x : Int) (N : Nat) (hN : N ≤ 16) (hx : IntKind.wrap .i64 (bop .and .i64 x 15 + 1) = (N : Int)) :
    ∀ (n i : Nat) (m : List Int) (row : List CV) (j : Nat), N - i ≤ n → i ≤ N → n < j → Byt m → m.length ≤ i * 100 → Hr m row →
      iterV (LongL k K) j (by8 b, x, m.length, (i : Int), by8 m, row) = K true := fun n => by
  have hs : ∀ (j : Nat) v, iterV (LongL k K) (j + 1) v = LongT k K (iterV (LongL k K) j) v := fun _ _ => rfl
  induction n with
  | zero =>
    intro i m row j h1 h2 h3 hm hml h4
    obtain ⟨j, rfl⟩ : ∃ q, j = q + 1 := ⟨j - 1, by omega⟩
    have hi : i = N := by omega
    subst hi
    refine (hs _ _).trans ?_
    unfold LongT f8_T1
    simp only [hx]
    exact bifF (decide_eq_false (by omega))
  | succ n ih =>
    intro i m row j h1 h2 h3 hm hml h4
    rcases Nat.lt_or_ge i N with hi | hi
    · obtain ⟨j, rfl⟩ : ∃ q, j = q + 1 := ⟨j - 1, by omega⟩
      have hmb : m.length ≤ 1600 := by omega
      obtain ⟨row', g1, g2⟩ := write_eq (k := k) (m := m) (d := b) (by omega) (by omega) hm hb h4 (by omega)
      refine (hs _ _).trans ?_
      have hf := ih (i + 1) (m ++ b) row' j (by omega) (by omega) (by omega) (hm.app hb) (by rw [List.length_append]; omega) g1
      generalize iterV (LongL k K) j = rec at hf ⊢
      unfold LongT f8_T1
      simp only [hx]
      refine (bifT (decide_eq_true (by omega))).trans ?_
      refine (g2 _ _).trans ?_
      simp only [by8_length]
      refine (grdT (decide_eq_true (by omega))).trans ?_
      refine (sum_eq (by omega) _ (hm.app hb) g1 (by rw [List.length_append]; omega)).trans ?_
      have et : List.take (m.length + b.length) (List.drop 0 (List.take m.length (by8 m) ++ by8 b)) = by8 (m ++ b) := by
        rw [List.drop_zero, take_all (by8 m) _ (by rw [by8_length]; omega), ← by8_append, take_all _ _ (by rw [by8_length, List.length_append]; omega)]
      have et2 : List.take m.length (by8 m) ++ by8 b = by8 (m ++ b) := by rw [take_all (by8 m) _ (by rw [by8_length]; omega), ← by8_append]
      simp only [et]
      refine (ref_eq _ (by omega) (hm.app hb) (by rw [List.length_append]; omega) (by rw [List.length_append]; omega)).trans ?_
      have hl := dig_length (m ++ b)
      generalize dig (m ++ b) = D at hl ⊢
      simp only [nums_by8 hl, Bool.and_self]
      refine (grdT rfl).trans ?_
      refine (bifF (not_same _)).trans ?_
      refine (len_eq _ g1).trans ?_
      have hlen : ((m ++ b).length : Int) = (Nat.cast (m.length + b.length) : Int) := by rw [List.length_append]
      refine (bifF (bne_f hlen)).trans ?_
      simp only [et2]
      rw [wrap64_s (by omega), ← List.length_append]
      exact hf
    · exact ih i m row j (by omega) h2 (by omega) hm hml h4
theorem long_law_eq {k : Nat} (K : Bool → Option X) (hk : 3000 < k) (hk2 : k < 1073741824) {b : List Int} (hb : Byt b) (x : Int) : f8 k K (by8 b) x = K true := by
  unfold f8 f8_A f8_T
  refine (alive_eq _ (by omega) hk2).trans ?_
  refine (bifF rfl).trans ?_
  by_cases h : b.length ≤ 100
  · refine (bifF (decide_eq_false (by rw [by8_length]; omega))).trans ?_
    refine (new_eq _).trans ?_
    have e15 := bop_mask64 x 4 (by decide)
    have hx : IntKind.wrap .i64 (bop .and .i64 x 15 + 1) = (((x % 16).toNat + 1 : Nat) : Int) := by
      have e15' : bop .and .i64 x 15 = x % 16 := e15
      rw [e15', wrap64 (by omega) (by omega)]; omega
    exact long_go K hk hk2 hb h x _ (by omega) hx 16 0 [] _ k (by omega) (by omega) (by omega) .nil (by simp) hr_new
  · exact bifT (decide_eq_true (by rw [by8_length]; omega))
theorem law_long (x0 : List Int) (w0 : x0.length ≤ maxLen ∧ ∀ y ∈ x0, (Lit.int .u8 y).wf = true) (x1 : Int) (w1 : (Lit.int .i64 x1).wf = true) : ∃ k, ∀ K : Bool → Option Out, f8 k K (x0.map fun y => CV.int .u8 y) x1 = K true :=
  ⟨100000, fun K => long_law_eq K (by omega) (by omega) (wfByt w0.2) x1⟩
end
end Go.Proofs.YtlaojkheenobaaaDoorD
