/- Parts one behind the other, in plain words. -/
import Derived.Test.YtlgdoglffddjfaaD
import Derived.Test.YtlgdoglffddjfaaPM
namespace Go.Proofs.YtlgdoglffddjfaaD
open Go Go.Proofs.YtlgdoglffddjfaaS Go.Proofs
set_option linter.unusedVariables false
set_option linter.unusedSimpArgs false
section
variable {X : Type}
/-- Parts, as a row of rows. -/
def parts (ps : List (List Int)) : List CV := ps.map fun p => .slc none (by8 p)
theorem join_part {k : Nat} (K : Nat × List CV → Option X) (rec : (List CV) × Nat × Int × (List CV) → Option X) (rows : List CV) (i : Nat) (p P : List Int) (hpi : rows[i]? = some (.slc none (by8 p))) (hle : P.length + p.length < 70368744177664) (hk : p.length < k) :
    iterV (f36_L2 k K rec) k (rows, P.length, (i : Int), 0, by8 P) = rec (rows, (P ++ p).length, IntKind.wrap .i64 ((i : Int) + 1), by8 (P ++ p)) := by
  have key := iterV_spec (T := f36_L2 k K rec) (fun j => (rows, P.length + j, (i : Int), (j : Int), by8 (P ++ p.take j))) (fun j => rec (rows, (P ++ p).length, IntKind.wrap .i64 ((i : Int) + 1), by8 (P ++ p))) p.length (fun j rec2 hj hr2 => by
    unfold f36_L2 f36_T2
    simp only [dec0, grd_true, Int.toNat_natCast, hpi, Option.bind_some, isL_slc, toL_slc, by8_length, decLt, hj, decide_true, cond_true, by8_get, List.getElem?_eq_getElem hj, Option.map_some, isI_int, toI_int]
    have e1 : List.take 1 (List.drop 0 [CV.int IntKind.u8 p[j]]) = by8 [p[j]] := rfl
    have e2 : List.take (P.length + j) (by8 (P ++ List.take j p)) = by8 (P ++ List.take j p) := take_all _ _ (by simp [by8_length]; omega)
    refine (grdT (decide_eq_true (by simp; omega))).trans ?_
    rw [← hr2]
    congr 1
    rw [e1, e2, ← by8_append, List.append_assoc, List.take_append_getElem hj]
    refine Prod.ext rfl (Prod.ext ?_ (Prod.ext rfl (Prod.ext ?_ rfl)))
    · simp [by8_length]; omega
    · exact wrap64_s (by omega)) (fun rec2 => by
    unfold f36_L2 f36_T2
    simp only [dec0, grd_true, Int.toNat_natCast, hpi, Option.bind_some, isL_slc, toL_slc, by8_length, decLt, Nat.lt_irrefl, decide_false, cond_false, List.take_length, List.length_append]) k 0 (Nat.zero_le _) (by omega)
  simpa using key
theorem join_eq {k : Nat} (K : Nat × List CV → Option X) (ps : List (List Int)) (hk : ps.length + ps.flatten.length < k) (hl : ps.flatten.length < 70368744177664) (hp : ps.length < 70368744177664) :
    f36 k K (parts ps) = K (ps.flatten.length, by8 ps.flatten) := by
  unfold f36 f36_A f36_T
  have hpl : (parts ps).length = ps.length := by simp [parts]
  refine iterV_spec (T := f36_L1 k K) (fun i => (parts ps, (ps.take i).flatten.length, (i : Int), by8 (ps.take i).flatten)) (fun i => K (ps.flatten.length, by8 ps.flatten)) ps.length (fun i rec hi hr => ?_) (fun rec => ?_) k 0 (Nat.zero_le _) (by omega)
  · unfold f36_L1 f36_T1
    have hpi : (parts ps)[i]? = some (.slc none (by8 ps[i])) := by simp [parts, List.getElem?_eq_getElem hi]
    simp only [hpl, decLt, hi, decide_true, cond_true]
    have hfl : (ps.take (i + 1)).flatten = (ps.take i).flatten ++ ps[i] := by
      rw [← List.take_append_getElem hi, List.flatten_append]; simp
    have hle : (ps.take i).flatten.length + ps[i].length ≤ ps.flatten.length := by
      have : (ps.take (i + 1)).flatten.length ≤ ps.flatten.length := by
        conv => rhs; rw [← List.take_append_drop (i + 1) ps, List.flatten_append, List.length_append]
        omega
      rw [hfl, List.length_append] at this
      exact this
    rw [← hr, join_part K rec (parts ps) i ps[i] (ps.take i).flatten hpi (by omega) (by omega), hfl, wrap64_s (by omega)]
  · unfold f36_L1 f36_T1
    simp only [hpl, decLt, Nat.lt_irrefl, decide_false, cond_false, List.take_length, Nat.zero_add]
    rw [take_all _ _ (by rw [by8_length]; exact Nat.le_refl _)]
end
end Go.Proofs.YtlgdoglffddjfaaD
