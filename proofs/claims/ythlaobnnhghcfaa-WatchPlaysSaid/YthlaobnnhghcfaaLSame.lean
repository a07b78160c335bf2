/- Bytes that are the same; bytes in new memory; parts one behind the other: in plain words. -/
import Derived.Test.YthlaobnnhghcfaaD
import Derived.Test.YthlaobnnhghcfaaPM
namespace Go.Proofs.YthlaobnnhghcfaaD
open Go Go.Proofs.YthlaobnnhghcfaaS Go.Proofs
set_option linter.unusedVariables false
set_option linter.unusedSimpArgs false
section
variable {X : Type}
theorem same_eq {k : Nat} (K : Bool → Option X) (a b : List Int) (hk : a.length < k) (hl : a.length < 4611686018427387904) : f16 k K (by8 a) (by8 b) = K (decide (a = b)) := by
  unfold f16 f16_A f16_T
  by_cases h : a.length = b.length
  · have key := iterV_spec (T := f16_L1 k K) (fun i => (by8 a, by8 b, (i : Int))) (fun i => K (decide (a.drop i = b.drop i))) a.length (fun i rec hi hr => by
      have hb : i < b.length := by omega
      unfold f16_L1 f16_T1
      simp only [by8_length, by8_get, Int.toNat_natCast, List.getElem?_eq_getElem hi, List.getElem?_eq_getElem hb, Option.map_some, Option.bind_some, isI_int, toI_int, grd_true, dec0, decLt, hi, decide_true, cond_true, wrap64_succ (show i < 4611686018427387904 by omega), hr]
      conv => rhs; rw [List.drop_eq_getElem_cons hi, List.drop_eq_getElem_cons hb]
      by_cases e : a[i] = b[i]
      · rw [show (a[i] != b[i]) = false by simp [e]]
        simp only [cond_false, List.cons.injEq, e, true_and]
      · rw [show (a[i] != b[i]) = true by simp [e]]
        simp only [cond_true, List.cons.injEq, e, false_and, decide_false]) (fun rec => by
      unfold f16_L1 f16_T1
      simp only [by8_length, bif_dec]
      rw [if_neg (by omega)]
      simp [h]) k 0 (Nat.zero_le _) (by omega)
    simp only [by8_length, h] at key ⊢
    simpa using key
  · have : a ≠ b := fun e => h (by rw [e])
    have h' : ((a.length : Int) != (b.length : Int)) = true := by simp; omega
    simp only [by8_length, h', cond_true, this, decide_false]
end
end Go.Proofs.YthlaobnnhghcfaaD
