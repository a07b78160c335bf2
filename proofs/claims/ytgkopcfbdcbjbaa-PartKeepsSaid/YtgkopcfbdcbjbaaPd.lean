/- PartApart, the law. -/
import Derived.Test.YtgkopcfbdcbjbaaPc
namespace Go.Proofs.YtgkopcfbdcbjbaaD
open Go Go.Proofs.YtgkopcfbdcbjbaaS Go.Proofs
set_option linter.unusedVariables false
set_option linter.unusedSimpArgs false
section
variable {X : Type}
theorem flt_ok {c z n : Nat} (h : n ≤ c * z) : fltP (c * z) false 0 (n : Int) = 0 := by
  unfold fltP wiB
  rw [if_neg (by decide), decide_eq_true (by omega)]; rfl
theorem tail_eq {k : Nat} (K : Bool → Option X) (hk : 400000 < k) (xs bs : List Int) (cl : Bool) (z : Nat) (B W : List Int) (t : Nat) (u : Int × Int × Int × Nat × Int × Nat × Int × Int × Bool × List CV × List CV) (hu : u.2.1 = ((2 : Nat) : Int)) (hu2 : u.2.2.1 = ((3 : Nat) : Int))
    (ha : xs.length ≤ 32) (hb : bs.length ≤ 32) (hz16 : 16 ≤ z) (hW : W.length = 6) (hz : W.length * z = B.length) (hB : B.length ≤ 262144)
    (hq : (B.drop (2 * z)).take bs.length = bs) (hp : cl = false → B.take xs.length = xs) (hc : cl = true → ∀ j, j < 2 * z → B[j]? = some 255) :
    f3_J1 (fun X => @f5 X k) (fun X => @f6 X k) (fun X => @f7 X k) (fun X => @f8 X k) (fun X => @f9 X k) (fun X => @f10 X k) (fun X => @f11 X k) (fun X => @f13 X k) (fun X => @f12 X k) k K u (by8 xs) (by8 bs) cl (B.length, (z : Int), W.length, (t : Int), -1, false, by8 B, by64 W, ((0 : Nat) : Int), ((2 : Nat) : Int)) = K true := by
  have hL : B.length = 6 * z := by rw [← hz, hW]
  unfold f3_J1
  simp only [by8_length, hu, hu2]
  refine (pread_eq _ _ _ _ _ _ _ _ _ _ _ hB hz (by omega)).trans ?_
  rw [flt_ok (by omega), if_pos rfl]
  refine (pread_eq _ _ _ _ _ _ _ _ _ _ _ hB hz (by omega)).trans ?_
  rw [flt_ok (by omega), if_pos rfl]
  refine (bifF rfl).trans ?_
  refine (bifF rfl).trans ?_
  have e1 : (B.drop (2 * z + (0 : Int).toNat)).take (bs.length : Int).toNat = bs := hq
  have e2 : (B.drop (0 * z + (0 : Int).toNat)).take (xs.length : Int).toNat = B.take xs.length := by simp
  rw [e1, e2]
  have e3 : ∀ xs : List Int, List.take xs.length (List.drop 0 (by8 xs)) = by8 xs := fun ys => take_all _ _ (by rw [List.drop_zero, by8_length]; exact Nat.le_refl _)
  simp only [e3]
  refine (same_eq _ _ _ (by omega) (by omega)).trans ?_
  refine (bifF (by simp)).trans ?_
  refine (psize_eq _ _ _ _ _ _ _ _ _ hB hz (by omega)).trans ?_
  obtain ⟨m, a, b⟩ := blank_any (X := X) (k := k) (by omega) 0 2 z B W t (-1) (by omega) hz hB
  refine (b _).trans ?_
  refine (bifT rfl).trans ?_
  cases cl with
  | true =>
    have : m = true := a (fun j _ hj => hc rfl j (by omega))
    rw [this]; rfl
  | false =>
    refine (bifF rfl).trans ?_
    refine (bifT rfl).trans ?_
    refine (same_eq _ _ _ (by simp; omega) (by simp; omega)).trans ?_
    rw [hp rfl, decide_eq_true rfl]
theorem drop_over (B : List Int) (a b : Nat) (xs : List Int) (h : a + xs.length ≤ b) (h2 : b ≤ B.length) : (over B a xs).drop b = B.drop b := by
  apply List.ext_getElem?
  intro i
  rw [List.getElem?_drop, List.getElem?_drop, over_get _ _ _ (by omega), if_neg (by omega)]
theorem clB_drop {B C : List Int} {a : Nat} (xs : List Int) (h : B.drop a = C.drop a) : clB B a xs = clB C a xs := by unfold clB; rw [h]
theorem new6 {k : Nat} (hk : 400000 < k) (x : Int) (hx : ¬ x > 64) : ∃ (z : Nat) (B W : List Int), 16 ≤ z ∧ z ≤ 64 ∧ W.length = 6 ∧ B.length = 6 * z ∧ (∀ a ys, clB B a ys = true) ∧ ∀ K : Nat × Int × Nat × List CV × List CV → Option X, f6 k K 6 x = K (B.length, (z : Int), W.length, by8 B, by64 W) := by
  have hzb : 16 ≤ zN x ∧ zN x ≤ 64 := by
    unfold zN
    repeat' split
    all_goals omega
  refine ⟨zN x, List.replicate (6 * zN x) 255, List.replicate 6 0, hzb.1, hzb.2, rfl, List.length_replicate, fun a ys => cl_full ys _ a, fun K => ?_⟩
  rw [new_eq _ hk 6 x, List.length_replicate, List.length_replicate]
  rfl
theorem pw_ok {k : Nat} (hk : 400000 < k) (ys : List Int) (f c z : Nat) (B W : List Int) (t : Nat) (hB : B.length ≤ 262144) (hz : W.length * z = B.length) (hc : f + c ≤ W.length) (ht : t ≤ 1073741824) (hy : ys.length ≤ c * z) (hcl : clB B (f * z) ys = true) (K : Int × Int × Int × Nat × Int × Nat × Int × Int × Bool × List CV × List CV → Option X) :
    f8 k K 0 (by8 ys) f c B.length z W.length t (-1) false (by8 B) (by64 W) = K (0, pl f c (over B (f * z) ys) z W (tmin t ys.length) (-1) false) := by
  have hw1 : wiB (c * z) 0 (ys.length : Int) = true := decide_eq_true (by omega)
  have e : f * z + (0 : Int).toNat = f * z := rfl
  rw [pwrite_eq _ (by omega) _ _ _ _ _ _ _ _ _ _ hB hz hc ht (by omega), if_neg (by decide), hw1, if_neg (by decide), e, hcl, if_neg (by decide)]
  unfold endR goes leftL
  simp [pr, pl]
end
end Go.Proofs.YtgkopcfbdcbjbaaD
