/- PartKeeps: the steps. -/
import Derived.Test.YtgkopcfbdcbjbaaPg
namespace Go.Proofs.YtgkopcfbdcbjbaaD
open Go Go.Proofs.YtgkopcfbdcbjbaaS Go.Proofs
set_option linter.unusedVariables false
set_option linter.unusedSimpArgs false
section
variable {X : Type}
theorem steps_loop {k0 : Nat} (hk : 300000 < k0) (K : Bool → Option X) (f c z : Nat) (hz0 : 0 < z) (hzz : z ≤ 4096) (all : List Opv) (hall : ∀ p ∈ all, p.2.1 < 9223372036854775808) (hn : all.length < 9223372036854775808) (B0 : List Int) (hfc : f + c ≤ 6) :
    ∀ (k i : Nat) (B W : List Int) (t : Nat) (l : Int) (d : Bool), all.length - i < k → i ≤ all.length → W.length = 6 → W.length * z = B.length → B.length ≤ 262144 → t ≤ 1073741824 → l < 9223372036854775808 → Aside (f * z) ((f + c) * z) B0 B →
    iterV (f4_L1 (fun X => @f5 X k0) (fun X => @f14 X k0) (fun X => @f6 X k0) (fun X => @f15 X k0) (fun X => @f16 X k0) (fun X => @f7 X k0) (fun X => @f8 X k0) (fun X => @f9 X k0) (fun X => @f17 X k0) (fun X => @f18 X k0) (fun X => @f19 X k0) k0 K) k ((f : Int), (c : Int), B0.length, all.map opv, (all.length : Int), (i : Int), by8 B0, B.length, (z : Int), W.length, (t : Int), l, d, by8 B, by64 W, (f : Int), (c : Int)) = K true
  | 0, i, B, W, t, l, d, h, _, _, _, _, _, _, _ => by omega
  | k + 1, i, B, W, t, l, d, h, hi0, hW, hz, hB, ht, hl, hA => by
    have ih := fun B W t l d h1 => steps_loop hk K f c z hz0 hzz all hall hn B0 hfc k (i + 1) B W t l d h1
    show f4_L1 (fun X => @f5 X k0) (fun X => @f14 X k0) (fun X => @f6 X k0) (fun X => @f15 X k0) (fun X => @f16 X k0) (fun X => @f7 X k0) (fun X => @f8 X k0) (fun X => @f9 X k0) (fun X => @f17 X k0) (fun X => @f18 X k0) (fun X => @f19 X k0) k0 K (iterV (f4_L1 (fun X => @f5 X k0) (fun X => @f14 X k0) (fun X => @f6 X k0) (fun X => @f15 X k0) (fun X => @f16 X k0) (fun X => @f7 X k0) (fun X => @f8 X k0) (fun X => @f9 X k0) (fun X => @f17 X k0) (fun X => @f18 X k0) (fun X => @f19 X k0) k0 K) k) _ = _
    generalize iterV (f4_L1 (fun X => @f5 X k0) (fun X => @f14 X k0) (fun X => @f6 X k0) (fun X => @f15 X k0) (fun X => @f16 X k0) (fun X => @f7 X k0) (fun X => @f8 X k0) (fun X => @f9 X k0) (fun X => @f17 X k0) (fun X => @f18 X k0) (fun X => @f19 X k0) k0 K) k = rc at ih ⊢
    unfold f4_L1 f4_T1
    simp only []
    by_cases hi : i < all.length
    · have hw : IntKind.wrap .i64 ((i : Int) + 1) = ((i + 1 : Nat) : Int) := by rw [wrap64 (by omega) (by omega)]; simp
      have g : (all.map opv)[i]? = some (opv all[i]) := by rw [List.getElem?_map, List.getElem?_eq_getElem hi]; rfl
      have hp := hall all[i] (List.getElem_mem hi)
      generalize all[i] = p at g hp
      have ih := fun B W t l d a1 a2 a3 a4 a5 a6 => ih B W t l d (by omega) (by omega) a1 a2 a3 a4 a5 a6
      refine (bifT (decide_eq_true (by omega))).trans ?_
      refine (grdT (decide_eq_true (by omega))).trans ?_
      simp only [Int.toNat_natCast, g, Option.bind_some, opv_a, opv_0, opv_1, opv_2, opv_3, isI_int, isL_slc, toI_int, toL_slc, grd_true]
      by_cases h0 : p.1 = 0
      · rw [h0]
        refine (bifT rfl).trans ?_
        refine pwrite_k (k := k0) hk p.2.1 p.2.2.2 f c z l B W t d hB hz (by omega) ht hl _ _ ?_
        intro e B' t' l' d' h1 h2 h3
        unfold f4_J1
        simp only [hw, pl, fl]
        exact ih B' W t' l' d' hW (by rw [h3.1]; exact hz) (by rw [h3.1]; exact hB) h1 h2 (hA.trans' h3)
      refine (bifF (beq_f h0)).trans ?_
      by_cases h1 : p.1 = 1
      · rw [h1]
        refine (bifT rfl).trans ?_
        refine clear_k2 (k := k0) hk f c z hzz B W t l d (by omega) (by omega) hz hB ht hl _ _ ?_
        intro e B' W' t' l' d' g1 g2 g3 g4 _
        unfold f4_J1
        simp only [hw, pl, fl]
        exact ih B' W' t' l' d' (g1.trans hW) (by rw [g4.1, g1]; exact hz) (by rw [g4.1]; exact hB) g2 g3 (hA.trans' g4)
      refine (bifF (beq_f h1)).trans ?_
      by_cases h3 : p.1 = 3
      · rw [h3]
        refine (bifT rfl).trans ?_
        refine (cut_eq _ p.2.1 (z : Int) l B W t d).trans ?_
        unfold f4_J1
        simp only [hw, fl]
        exact ih B W t _ d hW hz hB ht (by split <;> omega) hA
      refine (bifF (beq_f h3)).trans ?_
      by_cases h4 : p.1 = 4
      · rw [h4]
        refine (bifT rfl).trans ?_
        refine (restore_eq _ (z : Int) l B W t d).trans ?_
        unfold f4_J1
        simp only [hw]
        exact ih B W t (-1) false hW hz hB ht (by omega) hA
      refine (bifF (beq_f h4)).trans ?_
      unfold f4_J1
      simp only [hw]
      exact ih B W t l d hW hz hB ht hl hA
    · refine (bifF (decide_eq_false (by omega))).trans ?_
      refine (image_eq _ (z : Int) l B W t d (by omega)).trans ?_
      exact cmp_loop K f c z hz0 B0 B W t l d hA hB (by omega) k0 0 (by have := hA.1; omega) (Nat.zero_le _)
end
end Go.Proofs.YtgkopcfbdcbjbaaD
