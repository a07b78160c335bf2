/- PartKeeps: the comparing loop. -/
import Derived.Test.YtgkopcfbdcbjbaaPf
namespace Go.Proofs.YtgkopcfbdcbjbaaD
open Go Go.Proofs.YtgkopcfbdcbjbaaS Go.Proofs
set_option linter.unusedVariables false
set_option linter.unusedSimpArgs false
section
variable {X : Type}
theorem cmp_loop {k0 : Nat} (K : Bool → Option X) (f c z : Nat) (hz0 : 0 < z) (B0 B W : List Int) (t : Nat) (l : Int) (d : Bool) (hA : Aside (f * z) ((f + c) * z) B0 B) (hB : B.length ≤ 262144) (hfc : f + c ≤ 64) : ∀ k i, B0.length - i < k → i ≤ B0.length →
    iterV (f4_L2 (fun X => @f5 X k0) (fun X => @f14 X k0) (fun X => @f6 X k0) (fun X => @f15 X k0) (fun X => @f16 X k0) (fun X => @f7 X k0) (fun X => @f8 X k0) (fun X => @f9 X k0) (fun X => @f17 X k0) (fun X => @f18 X k0) (fun X => @f19 X k0) k0 K) k ((f : Int), (c : Int), B0.length, B.length, (B0.length : Int), (i : Int), by8 B0, by8 B, B.length, (z : Int), W.length, (t : Int), l, d, by8 B, by64 W) = K true
  | 0, i, h, _ => by omega
  | k + 1, i, h, hi0 => by
    have ih := cmp_loop (k0 := k0) K f c z hz0 B0 B W t l d hA hB hfc k (i + 1)
    show f4_L2 (fun X => @f5 X k0) (fun X => @f14 X k0) (fun X => @f6 X k0) (fun X => @f15 X k0) (fun X => @f16 X k0) (fun X => @f7 X k0) (fun X => @f8 X k0) (fun X => @f9 X k0) (fun X => @f17 X k0) (fun X => @f18 X k0) (fun X => @f19 X k0) k0 K (iterV (f4_L2 (fun X => @f5 X k0) (fun X => @f14 X k0) (fun X => @f6 X k0) (fun X => @f15 X k0) (fun X => @f16 X k0) (fun X => @f7 X k0) (fun X => @f8 X k0) (fun X => @f9 X k0) (fun X => @f17 X k0) (fun X => @f18 X k0) (fun X => @f19 X k0) k0 K) k) _ = _
    generalize iterV (f4_L2 (fun X => @f5 X k0) (fun X => @f14 X k0) (fun X => @f6 X k0) (fun X => @f15 X k0) (fun X => @f16 X k0) (fun X => @f7 X k0) (fun X => @f8 X k0) (fun X => @f9 X k0) (fun X => @f17 X k0) (fun X => @f18 X k0) (fun X => @f19 X k0) k0 K) k = rc at ih ⊢
    unfold f4_L2 f4_T2
    simp only []
    by_cases hi : i < B0.length
    · have hl := hA.1
      have hiB : i < B.length := by omega
      have ih := ih (by omega) (by omega)
      have hw : IntKind.wrap .i64 ((i : Int) + 1) = ((i + 1 : Nat) : Int) := by rw [wrap64 (by omega) (by omega)]; simp
      have hq : i / z ≤ i := Nat.div_le_self i z
      have hq0 : (0 : Int) ≤ ((i / z : Nat) : Int) := Int.natCast_nonneg _
      have hd : IntKind.wrap .i64 (Int.tdiv (i : Int) (z : Int)) = ((i / z : Nat) : Int) := by
        rw [Int.tdiv_eq_ediv_of_nonneg (by omega), show (i : Int) / (z : Int) = ((i / z : Nat) : Int) by simp]
        exact wrap64 (by omega) (by omega)
      have hzb : ((z : Int) != 0) = true := by
        have : (z : Int) ≠ 0 := by omega
        simpa using this
      have g0 : (by8 B0)[0 + i]? = some (.int .u8 B0[i]) := by rw [Nat.zero_add, by8_get, List.getElem?_eq_getElem hi]; rfl
      have hsec := fun K : Int × Nat × Int × Nat × Int × Int × Bool × List CV × List CV → Option X => sector_eq (k := k0) K (z : Int) l B W t d
      refine (bifT (decide_eq_true (by omega))).trans ?_
      refine (hsec _).trans ?_
      refine (grdT hzb).trans ?_
      simp only [fl, hd]
      have cmp : (i < f * z ∨ (f + c) * z ≤ i) → (by8 B)[0 + i]? = some (.int .u8 B0[i]) := fun hh => by
        rw [Nat.zero_add, by8_get, hA.2 i hh, List.getElem?_eq_getElem hi]; rfl
      by_cases h1 : f ≤ i / z
      · refine (bifT (decide_eq_true (by omega))).trans ?_
        refine (hsec _).trans ?_
        refine (grdT hzb).trans ?_
        simp only [fl, hd]
        by_cases h2 : i / z - f < c
        · refine (bifF (by rw [wrap64 (by omega) (by omega), decide_eq_true (by omega)]; rfl)).trans ?_
          unfold f4_J2
          simp only [hw]
          exact ih
        · refine (bifT (by rw [wrap64 (by omega) (by omega), decide_eq_false (by omega)]; rfl)).trans ?_
          have hge : (f + c) * z ≤ i := (Nat.le_div_iff_mul_le hz0).1 (by omega)
          refine (grdT (decide_eq_true (by omega))).trans ?_
          refine (grdT (decide_eq_true (by omega))).trans ?_
          simp only [Int.toNat_natCast, g0, cmp (Or.inr hge), Option.bind_some, isI_int, toI_int, grd_true]
          refine (grdT (decide_eq_true (by omega))).trans ?_
          refine (grdT (decide_eq_true (by omega))).trans ?_
          refine (bifF (by simp)).trans ?_
          unfold f4_J2
          simp only [hw]
          exact ih
      · refine (bifF (decide_eq_false (by omega))).trans ?_
        have hlt : i < f * z := (Nat.div_lt_iff_lt_mul hz0).1 (by omega)
        refine (grdT (decide_eq_true (by omega))).trans ?_
        refine (grdT (decide_eq_true (by omega))).trans ?_
        simp only [Int.toNat_natCast, g0, cmp (Or.inl hlt), Option.bind_some, isI_int, toI_int, grd_true]
        refine (grdT (decide_eq_true (by omega))).trans ?_
        refine (grdT (decide_eq_true (by omega))).trans ?_
        refine (bifF (by simp)).trans ?_
        unfold f4_J2
        simp only [hw]
        exact ih
    · exact bifF (decide_eq_false (by omega))
end
end Go.Proofs.YtgkopcfbdcbjbaaD
