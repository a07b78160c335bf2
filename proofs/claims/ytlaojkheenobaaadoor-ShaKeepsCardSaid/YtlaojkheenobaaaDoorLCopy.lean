/- Bytes in new memory, in plain words. -/
import Derived.Test.YtlaojkheenobaaaDoorD
import Derived.Test.YtlaojkheenobaaaDoorPM
namespace Go.Proofs.YtlaojkheenobaaaDoorD
open Go Go.Proofs.YtlaojkheenobaaaDoorS Go.Proofs
set_option linter.unusedVariables false
set_option linter.unusedSimpArgs false
section
variable {X : Type}
theorem t8 (bs : List Int) : List.take (0 + bs.length) (by8 bs) = by8 bs := by rw [Nat.zero_add]; exact take_all _ _ (by rw [by8_length]; exact Nat.le_refl _)
theorem t8' (bs : List Int) : List.take bs.length (by8 bs) = by8 bs := take_all _ _ (by rw [by8_length]; exact Nat.le_refl _)
theorem copy_eq {k : Nat} (K : Nat × List CV → Option X) (xs : List Int) (hk : xs.length < k) (hl : xs.length ≤ 100000) : f23 k K (by8 xs) = K (xs.length, by8 xs) := by
  unfold f23 f23_A f23_T
  refine iterV_spec (T := f23_L1 k K) (fun i => (by8 xs, i, (i : Int), by8 (xs.take i))) (fun _ => K (xs.length, by8 xs)) xs.length (fun i rec hi hr => ?_) (fun rec => ?_) k 0 (Nat.zero_le _) (by omega)
  · unfold f23_L1 f23_T1
    simp only [by8_length, decLt, hi, decide_true, cond_true, dec0, grd_true, Int.toNat_natCast, by8_get, List.getElem?_eq_getElem hi, Option.map_some, Option.bind_some, isI_int, toI_int]
    have e1 : List.take 1 (List.drop 0 [CV.int IntKind.u8 xs[i]]) = by8 [xs[i]] := rfl
    have e2 : List.take i (by8 (List.take i xs)) = by8 (List.take i xs) := take_all _ _ (by simp [by8_length]; omega)
    refine (grdT (decide_eq_true (by simp; omega))).trans ?_
    rw [← hr]
    refine congrArg rec (Prod.ext rfl (Prod.ext rfl (Prod.ext (wrap64_s (by omega)) ?_)))
    show List.take i (by8 (List.take i xs)) ++ List.take 1 (List.drop 0 [CV.int IntKind.u8 xs[i]]) = by8 (List.take (i + 1) xs)
    rw [e1, e2, ← by8_append, List.take_append_getElem hi]
  · unfold f23_L1 f23_T1
    simp only [by8_length, decLt, Nat.lt_irrefl, decide_false, cond_false, List.take_length, t8]
end
end Go.Proofs.YtlaojkheenobaaaDoorD
