/- Plain words for the functions that are printed: loops, rows, numbers. -/
import Derived.Test.YtlaojkheenobaaaDoorTN
namespace Go.Proofs.YtlaojkheenobaaaDoorS
open Go Go.RowKit
set_option linter.unusedVariables false
set_option linter.unusedSimpArgs false
section
variable {X V : Type}
theorem grd_true {k : Option X} : grd true k = k := rfl
theorem grd_of {b : Bool} {k : Option X} (h : b = true) : grd b k = k := by rw [h]; rfl
theorem grd_dec {p : Prop} [Decidable p] {k : Option X} (h : p) : grd (decide p) k = k := grd_of (decide_eq_true h)
theorem bif_dec {p : Prop} [Decidable p] {a b : Option X} : (bif decide p then a else b) = if p then a else b := by
  by_cases h : p <;> simp [h]
/-- A loop that counts: what it answers from each place on. -/
theorem iterV_spec {T : (V → Option X) → V → Option X} (S : Nat → V) (R : Nat → Option X) (n : Nat) (h : ∀ i rec, i < n → rec (S (i + 1)) = R (i + 1) → T rec (S i) = R i) (h0 : ∀ rec, T rec (S n) = R n) :
    ∀ (k i : Nat), i ≤ n → n - i < k → iterV T k (S i) = R i
  | 0, i, _, hk => absurd hk (Nat.not_lt_zero _)
  | k + 1, i, hi, hk => by
    show T (iterV T k) (S i) = R i
    rcases Nat.lt_or_ge i n with hl | hl
    · exact h i _ hl (iterV_spec S R n h h0 k (i + 1) (by omega) (by omega))
    · have : i = n := by omega
      subst this
      exact h0 _
/-- A loop of which a measure falls. -/
theorem iterV_meas {T : (V → Option X) → V → Option X} (R : V → Option X) (m : V → Nat) (P : V → Prop) (h : ∀ v rec, P v → (∀ v', P v' → m v' < m v → rec v' = R v') → T rec v = R v) :
    ∀ (k : Nat) (v : V), P v → m v < k → iterV T k v = R v
  | 0, v, _, hk => absurd hk (Nat.not_lt_zero _)
  | k + 1, v, hv, hk => by
    show T (iterV T k) v = R v
    exact h v _ hv fun v' hv' hm => iterV_meas R m P h k v' hv' (by omega)
theorem wrap64 {n : Int} (h0 : -9223372036854775808 ≤ n) (h1 : n < 9223372036854775808) : IntKind.wrap .i64 n = n := by
  simp only [IntKind.wrap, IntKind.bits, IntKind.signed]
  simp
  omega
theorem wrap64_succ {n : Nat} (h : n < 4611686018427387904) : IntKind.wrap .i64 ((n : Int) + 1) = ((n + 1 : Nat) : Int) := by
  rw [wrap64 (by omega) (by omega)]; omega
theorem bne_t {a b : Int} (h : a ≠ b) : (a != b) = true := by simpa using h
theorem beq_f {a b : Int} (h : a ≠ b) : (a == b) = false := by simpa using h
theorem dec0 (n : Nat) : decide ((0 : Int) ≤ (n : Int)) = true := by simp
theorem decLt (m n : Nat) : decide ((m : Int) < (n : Int)) = decide (m < n) := by simp
theorem decLe (m n : Nat) : decide ((m : Int) ≤ (n : Int)) = decide (m ≤ n) := by simp
theorem take_del {α : Type} {A B C D : List α} {n : Nat} (h : A.length = n) : List.take n (List.take n (A ++ D) ++ B ++ C) = A := by
  subst h
  rw [List.take_left, List.append_assoc, List.take_left]
theorem wrap64_s {n : Nat} (h : n < 9223372036854775807) : IntKind.wrap .i64 ((n : Int) + 1) = ((n + 1 : Nat) : Int) := by
  rw [wrap64 (by omega) (by omega)]; omega
theorem maxLen_lt : maxLen < 9223372036854775808 := by decide
/-- A row of bytes. -/
def by8 (bs : List Int) : List CV := bs.map (CV.int .u8)
theorem by8_length (bs : List Int) : (by8 bs).length = bs.length := by simp [by8]
theorem by8_get (bs : List Int) (i : Nat) : (by8 bs)[i]? = bs[i]?.map (CV.int .u8) := by simp [by8]
theorem by8_inj {a b : List Int} : by8 a = by8 b ↔ a = b := by
  refine ⟨fun h => ?_, fun h => by rw [h]⟩
  exact (List.map_inj_right (fun x y h => by cases h; rfl)).1 h
theorem by8_append (a b : List Int) : by8 (a ++ b) = by8 a ++ by8 b := by simp [by8]
theorem by8_take (a : List Int) (n : Nat) : by8 (a.take n) = (by8 a).take n := by simp [by8, List.map_take]
theorem by8_drop (a : List Int) (n : Nat) : by8 (a.drop n) = (by8 a).drop n := by simp [by8, List.map_drop]
theorem by8_set (m : List Int) (j : Nat) (n : Int) : (by8 m).set j (CV.int .u8 n) = by8 (m.set j n) := by simp [by8, List.map_set]
/-- Bytes that are written over, one by one. -/
def incU (r : List Int) : Nat → List Int
  | 0 => r
  | j + 1 => (incU r j).set j (IntKind.wrap .u8 ((incU r j).getD j 0 + 1))
theorem incU_length (r : List Int) : ∀ j, (incU r j).length = r.length
  | 0 => rfl
  | j + 1 => by simp [incU, incU_length r j]
theorem incU_get (r : List Int) (j i : Nat) (h : i < r.length) : (incU r j)[i]? = some ((incU r j).getD i 0) := by
  rw [List.getD_eq_getElem?_getD, List.getElem?_eq_getElem (by rw [incU_length]; exact h)]
  rfl
theorem isI_int (k : IntKind) (n : Int) : CV.isI k (.int k n) = true := by simp [CV.isI]
theorem toI_int (k : IntKind) (n : Int) : CV.toI (.int k n) = n := rfl
theorem isL_slc (sh : Option Nat) (xs : List CV) : CV.isL sh (.slc sh xs) = true := by
  cases sh <;> simp [CV.isL, shEq]
theorem toL_slc (sh : Option Nat) (xs : List CV) : CV.toL (.slc sh xs) = xs := rfl
theorem isB_bool (b : Bool) : CV.isB (.bool b) = true := rfl
theorem toB_bool (b : Bool) : CV.toB (.bool b) = b := rfl
theorem isA_agg (n : Nat) (cs : List CV) : CV.isA n (.agg cs) = Nat.beq cs.length n := rfl
theorem cellD_agg (j : Nat) (cs : List CV) : CV.cellD j (.agg cs) = cs.getD j .nilp := rfl
theorem cell_agg (j : Nat) (cs : List CV) : CV.cell (.agg cs) j = cs[j]? := rfl
theorem fitSh_agg (n : Nat) (cs : List CV) : fitSh (some n) (.agg cs) = Nat.beq cs.length n := by simp [fitSh, CV.isAgg, CV.ncells]
end
end Go.Proofs.YtlaojkheenobaaaDoorS
