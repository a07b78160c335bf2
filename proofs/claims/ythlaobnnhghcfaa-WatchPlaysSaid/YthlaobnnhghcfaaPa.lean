/- Which number is fresher: the law. -/
import Derived.Test.YthlaobnnhghcfaaD
import Derived.Test.YthlaobnnhghcfaaPM
namespace Go.Proofs.YthlaobnnhghcfaaD
open Go Go.Proofs.YthlaobnnhghcfaaS Go.Proofs
set_option linter.unusedVariables false
set_option linter.unusedSimpArgs false
section
variable {X : Type}
set_option maxRecDepth 100000 in
theorem alive_eq {k : Nat} (K : Bool → Option X) (hk : 100 < k) : f7 k K = K true := by
  obtain ⟨k, rfl⟩ : ∃ j, k = j + 60 := ⟨k - 60, by omega⟩
  clear hk
  kernel_rfl
theorem wrapM (n : Int) : IntKind.wrap .i64 n % 16777216 = n % 16777216 := by
  unfold IntKind.wrap
  simp [IntKind.bits, IntKind.signed]
  omega
theorem mask24 (x : Int) : bop .and .i64 x 16777215 = x % 16777216 := bop_mask64 x 24 (by decide)
def ck (x : Int) : Int := if x < 0 then 0 else if x > 1099511627776 then 1099511627776 else x
theorem ck_b (x : Int) : 0 ≤ ck x ∧ ck x ≤ 1099511627776 := by
  unfold ck
  repeat' split
  all_goals omega
theorem clock_eq {k : Nat} (K : Int → Option X) (x : Int) : f32 k K x = K (ck x) := by
  refine congrArg K ?_
  unfold ck
  repeat' split
  all_goals omega
theorem refClock_eq {k : Nat} (K : Int → Option X) (x : Int) : f36 k K x = K (ck x) := by
  show (bif decide (x < 0) then K 0 else bif decide (x > 1099511627776) then K 1099511627776 else K x) = _
  unfold ck
  simp only [bif_dec]
  repeat' split
  all_goals rfl
def Fr (a b p q : Int) : Prop := ((b - a) % 16777216 > 0 ∧ (b - a) % 16777216 < 8388608) ∨ ck q - ck p > 128
instance (a b p q : Int) : Decidable (Fr a b p q) := by unfold Fr; infer_instance
theorem fresh_eq {k : Nat} (K : Bool → Option X) (a b p q : Int) : f12 k K a b p q = K (decide (Fr a b p q)) := by
  have h1 := ck_b p
  have h2 := ck_b q
  have hA := Int.emod_nonneg a (show (16777216 : Int) ≠ 0 by decide)
  have hA2 := Int.emod_lt_of_pos a (show (0 : Int) < 16777216 by decide)
  have hB := Int.emod_nonneg b (show (16777216 : Int) ≠ 0 by decide)
  have hB2 := Int.emod_lt_of_pos b (show (0 : Int) < 16777216 by decide)
  unfold f12 f12_A f12_T
  simp only [mask24, clock_eq, bif_dec]
  rw [wrap64 (n := b % 16777216 - a % 16777216) (by omega) (by omega), wrap64 (n := a % 16777216 - b % 16777216) (by omega) (by omega), wrap64 (n := ck p + 128) (by omega) (by omega)]
  repeat' split
  all_goals first
    | exact congrArg K (decide_eq_true (by unfold Fr; omega)).symm
    | exact congrArg K (decide_eq_decide.2 (by unfold Fr; omega))
theorem refFresh_eq {k : Nat} (K : Bool → Option X) (a b p q : Int) : f13 k K a b p q = K (decide (Fr a b p q)) := by
  have h1 := ck_b p
  have h2 := ck_b q
  unfold f13 f13_A f13_T
  simp only [mask24, wrapM, refClock_eq, bif_dec]
  rw [wrap64 (n := ck q - ck p) (by omega) (by omega)]
  repeat' split
  all_goals first
    | exact congrArg K (decide_eq_true (by unfold Fr; omega)).symm
    | exact congrArg K (decide_eq_decide.2 (by unfold Fr; omega))
theorem law_eq {k : Nat} (K : Bool → Option X) (hk : 100 < k) (a b p q : Int) : f4 k K a b p q = K true := by
  unfold f4 f4_A f4_T
  refine (alive_eq _ hk).trans ?_
  simp only [Bool.not_true, cond_false, fresh_eq, refFresh_eq, beq_self_eq_true, mask24, wrapM]
  have e : ∀ x y : Int, decide (Fr x y p p) = decide ((y - x) % 16777216 > 0 ∧ (y - x) % 16777216 < 8388608) := fun x y => decide_eq_decide.2 (by unfold Fr; omega)
  rw [e, e]
  by_cases h0 : (b - a) % 16777216 = 0
  · have n1 : ¬ ((b - a) % 16777216 > 0 ∧ (b - a) % 16777216 < 8388608) := by omega
    have n2 : ¬ ((a - b) % 16777216 > 0 ∧ (a - b) % 16777216 < 8388608) := by omega
    rw [decide_eq_false n1, decide_eq_false n2, h0]
    rfl
  rw [show ((b - a) % 16777216 == 0) = false from beq_f h0]
  by_cases h8 : (b - a) % 16777216 = 8388608
  · have n1 : ¬ ((b - a) % 16777216 > 0 ∧ (b - a) % 16777216 < 8388608) := by omega
    have n2 : ¬ ((a - b) % 16777216 > 0 ∧ (a - b) % 16777216 < 8388608) := by omega
    rw [decide_eq_false n1, decide_eq_false n2, h8]
    rfl
  rw [show ((b - a) % 16777216 == 8388608) = false from beq_f h8]
  by_cases hx : (b - a) % 16777216 < 8388608
  · have n1 : ((b - a) % 16777216 > 0 ∧ (b - a) % 16777216 < 8388608) := by omega
    have n2 : ¬ ((a - b) % 16777216 > 0 ∧ (a - b) % 16777216 < 8388608) := by omega
    rw [decide_eq_true n1, decide_eq_false n2]
    rfl
  · have n1 : ¬ ((b - a) % 16777216 > 0 ∧ (b - a) % 16777216 < 8388608) := by omega
    have n2 : ((a - b) % 16777216 > 0 ∧ (a - b) % 16777216 < 8388608) := by omega
    rw [decide_eq_false n1, decide_eq_true n2]
    rfl
theorem law_fresh (x0 : Int) (_ : (Lit.int .i64 x0).wf = true) (x1 : Int) (_ : (Lit.int .i64 x1).wf = true) (x2 : Int) (_ : (Lit.int .i64 x2).wf = true) (x3 : Int) (_ : (Lit.int .i64 x3).wf = true) : ∃ k, ∀ K : Bool → Option Out, f4 k K x0 x1 x2 x3 = K true := ⟨101, fun K => law_eq K (by omega) x0 x1 x2 x3⟩
end
end Go.Proofs.YthlaobnnhghcfaaD
